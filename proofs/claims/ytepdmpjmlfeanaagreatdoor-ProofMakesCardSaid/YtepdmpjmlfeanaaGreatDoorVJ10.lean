/- V: VGo, VFun, VOnce, VEnvOk, VSeat -/
import Derived.Test.YtepdmpjmlfeanaaGreatDoorVJ09
/- V: the way through a body. -/
set_option linter.unusedVariables false
set_option linter.unusedSimpArgs false
namespace Go.V
variable {U : Nat → Type}
section
variable {E : Env U} {w : World} {St : Ck U → Nat → Prop} {ι : Nat → Option Value} {s : S U} {N : Nat} {tm : Array Value} {w0 : World} {St0 : Ck U → Nat → Prop} {O0 : Nat → Prop} {K : A U → List (AObj U) → Prop}
variable {nb : Nat} {ιi : Nat → Option Value} {H : List (Nat × Obj)} {rnd : Rnd}

theorem run_enterLoop_inner {P : Program} (fn : FuncId) (tmps : Array Value) (ps : Array Tmp) (assign body : Code) {l0 : Nat} {L0 : Loop} (h : w.heap[l0]? = some (.loop L0)) :
    (Instr.enterLoop fn tmps ps assign body (some l0)).run P w = .ok (w.heap.size, []) (w.alloc (.loop { state := .ready, pending := none, fn, tmps, params := ps, assign, body, defers := L0.defers })) := by
  unfold Instr.enterLoop
  simp only [Sem.run_bind, run_getLoop h, run_newObj_alloc, Result.andThen, Sem.run_pure, World.size_alloc]

/-- entering a loop: the record, and (at an outermost one) the block for deferred calls, have no names yet -/
theorem enter_ok {b : Frame} {a : Act} {hb : Bool} (I : Inv E N w0 St0 O0 (nb, ιi, H) s a.tmps w ι St) (hF : FrOk rnd H b a hb) (ps : Array Tmp) (as bd : Code) :
    ∃ l mark w1 H' L, (Instr.enterLoop b.fn a.tmps ps as bd b.roundOf).run E.P w = .ok (l, mark) w1 ∧ L.state = .ready ∧ L.pending = none ∧ L.fn = b.fn ∧ L.tmps = a.tmps ∧ L.params = ps ∧ L.assign = as ∧ L.body = bd ∧ w.heap.size ≤ l ∧
      Inv E N w0 St0 O0 (nb, ιi, (l, .loop L) :: H') s a.tmps w1 ι St ∧ FrOk rnd H' b { a with defers := mark ++ a.defers } hb := by
  cases rnd with
  | none =>
    obtain ⟨h1, h2, h3⟩ := hF
    rw [h1]
    have I1 := I.newH (.deferred (some []))
    refine ⟨_, _, _, (w.heap.size, .deferred (some [])) :: H, { state := .ready, pending := none, fn := b.fn, tmps := a.tmps, params := ps, assign := as, body := bd, defers := w.heap.size }, run_enterLoop_outer (P := E.P) b.fn a.tmps ps as bd, rfl, rfl, rfl, rfl, rfl, rfl, rfl, Nat.le_succ _, ?_, h1, ?_, ?_⟩
    · have I2 := I1.newH (.loop { state := .ready, pending := none, fn := b.fn, tmps := a.tmps, params := ps, assign := as, body := bd, defers := w.heap.size })
      simpa using I2
    · simp [h2, markOf]
    · intro x hx
      rcases List.mem_cons.1 hx with rfl | hx
      · rfl
      · exact h3 x hx
  | some x =>
    obtain ⟨l0, L0⟩ := x
    obtain ⟨h1, h2, rfl⟩ := hF
    rw [h1]
    have hh := (I.hid _ (List.mem_singleton.2 rfl)).1
    simp only [] at hh
    exact ⟨_, _, _, _, { state := .ready, pending := none, fn := b.fn, tmps := a.tmps, params := ps, assign := as, body := bd, defers := L0.defers }, run_enterLoop_inner (P := E.P) b.fn a.tmps ps as bd hh, rfl, rfl, rfl, rfl, rfl, rfl, rfl, Nat.le_refl _, I.newH _, h1, by simpa using h2, rfl⟩

theorem vrange_sound (ok : EnvOk2 E) {T : Tab U} (TS : TSound E T) {b : Frame} {a : Act} {g : Operand} {ps : Array Tmp} {as bd : Code} {k : List Item} {f : FuncId} {hb : Bool} {fn : Func} (hfb : b.fn = f) (I : Inv E N w0 St0 O0 (nb, ιi, H) s a.tmps w ι St)
    (hf : ∀ m, s.nx ≤ m → ι m = none) (hF : FrOk rnd H b a hb) (hloop : ∃ k', ctxAll (lkey as bd) (bodyOf E.P f) = .code (.rangeFunc g ps as bd) :: k') (hfn : E.P.funcs[f]? = some fn) (hN : fn.ntmps ≤ N) {Kc : Nat → S U → Prop} (hv : vrange E T f g as bd s Kc) {R : Ending → World → Prop}
    (next : ∀ j s' (a' : Act) w' ι' St' H', Kc j s' → Inv E N w0 St0 O0 (nb, ιi, H') s' a'.tmps w' ι' St' → (∀ m, s'.nx ≤ m → ι' m = none) → FrOk rnd H' b a' hb → Ends E.P b (((jumpOf j).map Item.code).toList ++ k) a' w' R) :
    Ends E.P b (.code (.rangeFunc g ps as bd) :: k) a w R := by
  unfold vrange at hv
  cases hev : s.ev E 0 g with
  | clo gf caps =>
    rw [hev] at hv
    simp only [] at hv
    cases hpr : (memN gf E.procs && Nat.blt gf 1000000) with
    | false => rw [hpr] at hv; exact hv.elim
    | true =>
    rw [hpr] at hv
    simp only [cond_true] at hv
    simp only [Bool.and_eq_true] at hpr
    cases hlo : loopOf f (lid as bd) E.loops with
    | none => rw [hlo] at hv; exact hv.elim
    | some live =>
    rw [hlo] at hv
    simp only [] at hv
    have hclo := ev_ok ok I.rel 0 g
    rw [hev] at hclo
    obtain ⟨vs, e1, e2, e3⟩ := RV.clo_inv hclo
    obtain ⟨l, mark, w1, H', L, he, L1, L2, L3, L4, L5, L6, L7, hl, I1, hF1⟩ := enter_ok I hF ps as bd
    have hLI : LoopIs E f (lid as bd) live L := ⟨⟨hlo, L3.trans hfb⟩, ⟨g, by rw [L5, L6, L7]; exact hloop⟩, fn, hfn, by rw [L4, I.rel.tsz]; exact hN⟩
    have hvals : RVs E w1 St ι (live.map fun d => untup (s.t d)) (live.map fun d => L.tmps.getD d undef) := by
      rw [L4]
      exact (holds_live I1.rel live).rvs' fun q hq => by
        obtain ⟨d, -, rfl⟩ := List.mem_map.1 hq
        exact noTup_untup _
    obtain ⟨I2, hf2⟩ := I1.nameH hf (Nat.le_trans I.fr.size hl) hLI hvals ⟨L1, L2⟩
    -- the call
    generalize hs1 : ({ s with h := upd s.h s.nx (.lp f (lid as bd) live (live.map fun d => untup (s.t d)) 0), nx := s.nx + 1 } : S U) = s1 at hv I2
    have hs1x : s1.nx = s.nx + 1 := by rw [← hs1]
    have hs1b : s1.nb = s.nb := by rw [← hs1]
    have ext1 : Ext w St ι w1 St (upd ι s.nx (some (.func (.yield l) #[] #[]))) := by
      refine ⟨fun _ _ h => h, fun m u h => ?_, fun B hB => ?_, ?_⟩
      · rw [upd_ne _ _ (fun e => by subst e; rw [hf _ (Nat.le_refl _)] at h; cases h)]; exact h
      · revert he
        cases rnd with
        | none =>
          rw [hF.1, run_enterLoop_outer]
          intro he
          cases he
          have := I.rel.stb B hB.an
          simp only [World.alloc, Array.getElem?_push, Array.size_push]
          rw [if_neg (by omega), if_neg (by omega)]
        | some x =>
          obtain ⟨l0, L0⟩ := x
          obtain ⟨h1, h2, rfl⟩ := hF
          have hh := (I.hid _ (List.mem_singleton.2 rfl)).1
          simp only [] at hh
          rw [h1, run_enterLoop_inner (P := E.P) b.fn a.tmps ps as bd hh]
          intro he
          cases he
          have := I.rel.stb B hB.an
          simp only [World.alloc, Array.getElem?_push]
          rw [if_neg (by omega)]
      · revert he
        cases rnd with
        | none => rw [hF.1, run_enterLoop_outer]; intro he; cases he; simp; omega
        | some x =>
          obtain ⟨l0, L0⟩ := x
          obtain ⟨h1, h2, rfl⟩ := hF
          have hh := (I.hid _ (List.mem_singleton.2 rfl)).1
          simp only [] at hh
          rw [h1, run_enterLoop_inner (P := E.P) b.fn a.tmps ps as bd hh]
          intro he
          cases he
          simp
    unfold callP at hv
    cases hkn : (A.yld s.nx :: caps : List (A U)).all known with
    | false => rw [hkn] at hv; exact hv.elim
    | true =>
    rw [hkn] at hv
    simp only [cond_true] at hv
    cases hx : layG s1.h (s.nx + 1) [] (.yld s.nx :: caps) with
    | none => rw [hx] at hv; exact hv.elim
    | some x =>
    rw [hx] at hv
    simp only [] at hv
    cases hbn : (Nat.ble x.n (s.nx + 1 + 100) && x.L.all fun m => Nat.blt m x.n || Nat.ble (s.nx + 1 + 100) m) with
    | false => rw [hbn] at hv; exact hv.elim
    | true =>
    rw [hbn] at hv
    simp only [cond_true] at hv
    simp only [Bool.and_eq_true, Nat.ble_eq, List.all_eq_true, Bool.or_eq_true, Nat.blt_eq] at hbn
    obtain ⟨hn, hL⟩ := hbn
    obtain ⟨⟨fg, f1, f2, f3⟩, f4⟩ := ((TS gf _ _ _ hv).1 hpr.2).2 hpr.1
    obtain ⟨gbody, f2⟩ := Option.isSome_iff_exists.1 f2
    have hyv : RV E w1 St (upd ι s.nx (some (.func (.yield l) #[] #[]))) (.yld s.nx) (.func (.yield l) #[] #[]) := .mk1 (.yld (upd_same _ _ _) .nil) rfl rfl
    have hrv : RVs E w1 St (upd ι s.nx (some (.func (.yield l) #[] #[]))) (.yld s.nx :: caps) (#[Value.func (.yield l) #[] #[]] ++ vs).toList := by
      have h2 := (RVs.of_flat ok.toEnvOk e2 e3).ext ext1
      have h3 : RVs E w1 St (upd ι s.nx (some (.func (.yield l) #[] #[]))) (.yld s.nx :: caps) (Value.func (.yield l) #[] #[] :: vs.toList) := ⟨.inr hyv, h2⟩
      rw [Array.toList_append]
      exact h3
    obtain ⟨ι2, LO⟩ := layG_ok ok I2.rel hx (hrv.holds hkn) (fun q hq => noTup_known (by simpa using (List.all_eq_true.1 hkn) q hq)) (fun m h5 h6 => hf2 m h5)
    have hnt : ∀ q ∈ x.vals, noTup q = true := layG_noTup hx fun q hq => noTup_known (by simpa using (List.all_eq_true.1 hkn) q hq)
    have hcall := f4 w1 St (reι x.L ι2) _ (LO.vals.rvs hnt) LO.heap (fun m hm => LO.out m (by rw [LO.len] at hm; exact hm))
    have hres : (resolve a.eval (rangeCall g l) 0).run E.P w1 = .ok ({ target := .fn (.func gf) vs, args := #[.func (.yield l) #[] #[]] } : Deferred) w1 := by
      have e0 : (rangeCall g l).args.map a.eval = #[.func (.yield l) #[] #[]] := by simp [rangeCall, Act.eval]
      simp only [resolve, e0, e1, Deferred.ofValue, Array.empty_append, Sem.run_pure]
    have hinv : (invoke (Target.fn (Fn.func gf) vs) #[.func (.yield l) #[] #[]]).run E.P w1 = .ok (.enter gf (#[Value.func (.yield l) #[] #[]] ++ vs)) w1 := by
      simp only [invoke]
      exact MuLone.run_callFunc_enter f1 f3 f2 _ _
    refine .of fun cs => ?_
    have s1' := stepR_rangeFunc (P := E.P) (b := b) (a := a) (k := k) (cs := cs) (w := w) he hres hinv
    obtain ⟨e, w3, fr, hR, hcome, -, hleave⟩ := hcall (b.atR { a with defers := mark ++ a.defers } (.inRangeFunc l :: k) :: cs)
    obtain ⟨r, v, objs, ι', St', rfl, q⟩ := hR
    have hkk := q.k
    cases hb2 : (Nat.ble x.L.length objs.length && Nat.ble (x.n + (objs.length - x.L.length)) (s.nx + 1 + 100)) with
    | false => rw [hb2] at hkk; exact hkk.elim
    | true =>
    rw [hb2] at hkk
    simp only [cond_true] at hkk
    simp only [Bool.and_eq_true, Nat.ble_eq] at hb2
    obtain ⟨ι4, St2, hs⟩ := proc_done (a := { a with defers := mark ++ a.defers }) ok I2.rel (fun m h5 h6 => hf2 m h5) none (fun _ h => by cases h) LO hn hL q hb2.1 hb2.2
    have I3 := I2.step (a := { a with defers := mark ++ a.defers }) (by rw [hs1b]; exact Nat.le_succ_of_le I.nbx) hs
    generalize hs2 : (s1.put (x.wr ++ wrP x.L x.n 0 objs) none (mapA (unr x.L x.n) r)) = s2 at hkk I3
    have h2x : s2.nx = s1.nx := by rw [← hs2]; rfl
    have hιn : ι4 s.nx = some (.func (.yield l) #[] #[]) := hs.nm _ _ (upd_same _ _ _)
    cases hsn : s2.h s.nx with
    | lp lf lk live' vals' j =>
      rw [hsn] at hkk
      simp only [] at hkk
      have hobj := I3.rel.obj s.nx
      rw [hsn, hιn] at hobj
      obtain ⟨r', L', q1, q2, q3, q4, q5⟩ := hobj
      obtain rfl : l = r' := by simpa using q1
      have hend : (Instr.endLoop l).run E.P w3 = .ok (jumpOf j) (w3.putObj l (.loop { L' with state := .exhausted })) := by
        rw [run_endLoop (P := E.P) q2 (by rw [q5.1]; split <;> simp), q5.2]
      have I4 := I3.dropL (n := s.nx) (l := l) (.loop { L' with state := .exhausted }) (by rw [hsn]; rfl) (by rw [hιn]; rfl) (s.nx + 101) (by rw [h2x, hs1x]; omega)
      refine ⟨_, { a with defers := mark ++ a.defers }, _, ?_, next j _ { a with defers := mark ++ a.defers } _ ι4 St2 H' hkk I4 (fun m hm => ?_) hF1⟩
      · refine Steps.head s1' (Steps.trans hcome (Steps.head (step_leave_returned hleave) ?_))
        rw [finish_atR_inRangeFunc]
        exact .one (stepR_endRangeFunc hend)
      · have hm' : s.nx + 101 ≤ m := hm
        cases hι : ι4 m with
        | none => rfl
        | some u =>
          rcases hs.new m (by rw [hι]; simp) with h | h
          · exact absurd (hf2 m (by omega)) h
          · omega
    | _ => rw [hsn] at hkk; exact hkk.elim
  | _ => rw [hev] at hv; exact hv.elim

theorem stepR_scope {P : Program} {b : Frame} {a : Act} {k : List Item} {cs : List Frame} {w : World} {c : Code} : step P (lone (b.atR a (.code (.scope c) :: k)) cs w) = .next (lone (b.atR a (.code c :: .inScope c :: k)) cs w) :=
  step_lone_go (by simp [stepG, stepG.exec, Frame.atR])
theorem stepR_inScope {P : Program} {b : Frame} {a : Act} {k : List Item} {cs : List Frame} {w : World} {c : Code} : step P (lone (b.atR a (.inScope c :: k)) cs w) = .next (lone (b.atR a k) cs w) :=
  step_lone_go (by simp [stepG, stepG.exec, Frame.atR])
theorem hasBegin_code (c : Code) (k : List Item) : hasBegin (.code c :: k) = hasBegin k := rfl

theorem vgo_sound (ok : EnvOk2 E) {T : Tab U} {C : Cut U} (TS : TSound E T) (CS : CSound E C) (hm : E.P.follows .mixedOrders = true) {f : FuncId} {fn : Func} {body : Code} (hfn : E.P.funcs[f]? = some fn) (hbody : fn.body = some body) (hok : okBody fn.ntmps body = true) (hN : fn.ntmps ≤ N) (hO : rnd = none → Plain E f O0) :
    ∀ (n : Nat) (st : Bool) (todo : List Item) (s : S U) (b : Frame) (a : Act) (w : World) (ι : Nat → Option Value) (St : Ck U → Nat → Prop) (H : List (Nat × Obj)), vgo E T C f fn.results K rnd.isSome n st todo s → (∀ x ∈ ctxsT todo, x ∈ placesOf rnd.isSome body) → b.fn = f → b.kind = .normal → FrOk rnd H b a (hasBegin todo) →
      Inv E N w0 St0 O0 (nb, ιi, H) s a.tmps w ι St → (∀ m, s.nx ≤ m → ι m = none) → Ends E.P b todo a w (FPost E rnd f w0 St0 O0 nb ιi K)
  | 0, st, todo, s, b, a, w, ι, St, H, hv, hc, hb, hk, hF, I, hf => hv.elim
  | n + 1, st, todo, s, b, a, w, ι, St, H, hv, hc, hb, hk, hF, I, hf => by
    have go := fun st todo s a w ι St H h1 h2 h3 h4 h5 => vgo_sound ok TS CS hm hfn hbody hok hN hO n st todo s b a w ι St H h1 h2 hb hk h3 h4 h5
    have hfn' : E.P.funcs[b.fn]? = some fn := by rw [hb]; exact hfn
    have hbo : bodyOf E.P f = body := by unfold bodyOf; rw [hfn]; simp only [hbody]
    unfold okBody at hok
    simp only [Bool.and_eq_true, fstN_eq, distinctN_iff] at hok
    have hro := hF.round
    -- the end, or 'ret'
    have ends : ∀ (j : Nat) (todo : List Item) (hs : Bool), cond rnd.isSome (vend j s K) (vret E f fn.results s K) → FrOk rnd H b a hs → (rnd = none → ∀ cs, Go.step E.P (lone (b.atR a todo) cs w) = .next (lone { b.atR a todo with mode := .returning } cs w)) →
        (∀ l L, rnd = some (l, L) → ∀ c cs v w', (Instr.endRound l (jumpOf j)).run E.P w = .ok v w' → Go.step E.P (lone (b.atR a todo) (c :: cs) w) = .next (lone (c.finish v) cs w')) → Ends E.P b todo a w (FPost E rnd f w0 St0 O0 nb ιi K) := by
      intro j todo hs hv hF h1 h2
      cases hr : rnd with
      | none =>
        subst hr
        exact ends_ret ok I hf (hO rfl) hfn' hk hF hv (h1 rfl)
      | some x =>
        subst hr
        obtain ⟨l, L⟩ := x
        exact ends_round ok I hf hF hv (h2 l L rfl)
    cases todo with
    | nil => exact ends 0 [] _ hv hF (fun h cs => stepR_end (by rw [hro, h]; rfl)) (fun l L h c cs v w' h2 => stepR_round_end (by rw [hro, h]; rfl) hk h2)
    | cons x k =>
      cases x with
      | inBlock j => exact Ends.step (fun cs => stepR_inBlock) (go _ _ _ _ _ _ _ _ hv hc hF I hf)
      | inScope j => exact Ends.step (fun cs => stepR_inScope) (go _ _ _ _ _ _ _ _ hv hc hF I hf)
      | inLoop c => exact Ends.step (fun cs => stepR_inLoop) (go _ _ _ _ _ _ _ _ hv (fun x hx => hc x (by simp only [ctxsT, List.mem_append] at hx ⊢; rcases hx with h | h; exact .inl h; exact h)) hF I hf)
      | beginRound =>
        simp only [vgo] at hv
        cases hr : rnd with
        | none => rw [hr] at hv; exact hv.elim
        | some x =>
          obtain ⟨l, L⟩ := x
          cases hb' : hasBegin k with
          | true => rw [hr, hb'] at hv; exact hv.elim
          | false =>
            rw [hr] at hF
            obtain ⟨h1, h2, rfl⟩ := hF
            have hh := (I.hid _ (List.mem_singleton.2 rfl)).1
            simp only [] at hh
            have hrun := run_beginRound (P := E.P) hh rfl
            have I' := I.putH (o' := .loop { L with state := .busy })
            rw [← hr]
            refine Ends.step (fun cs => stepR_beginRound h1 hrun) (go false _ _ _ _ _ _ _ ?_ hc ?_ I' hf)
            · rw [hr, hb'] at hv; rw [hr]; exact hv
            · rw [hr]
              refine ⟨h1, h2, ?_⟩
              rw [hb']; rfl
      | code c =>
        rw [hasBegin_code] at hF
        cases c with
        | skip => exact Ends.step (fun cs => stepR_skip) (go _ _ _ _ _ _ _ _ hv (fun x hx => hc x (by simpa [ctxsT, ctxs] using hx)) hF I hf)
        | label l => exact Ends.step (fun cs => stepR_label) (go _ _ _ _ _ _ _ _ hv (fun x hx => hc x (by simpa [ctxsT, ctxs] using hx)) hF I hf)
        | scope c => exact Ends.step (fun cs => stepR_scope) (go _ _ _ _ _ _ _ _ hv (fun z hz => hc z (by simpa [ctxsT, ctxs] using hz)) hF I hf)
        | seq x y => exact Ends.step (fun cs => stepR_seq) (go _ _ _ _ _ _ _ _ hv (fun z hz => hc z (by simpa [ctxsT, ctxs] using hz)) hF I hf)
        | cond c x y =>
          simp only [vgo] at hv
          cases hev : s.ev E 0 c with
          | bool t =>
            rw [hev] at hv
            have hc' := ev_ok ok I.rel 0 c
            rw [hev] at hc'
            have hcv := RV.bool_inv hc'
            refine Ends.step (fun cs => stepR_cond hcv) ?_
            cases t with
            | true => exact go _ _ _ _ _ _ _ _ hv (fun z hz => hc z (by simp only [ctxsT, ctxs, List.mem_append, if_true] at hz ⊢; rcases hz with h | h; exact .inl (.inl h); exact .inr h)) hF I hf
            | false => exact go _ _ _ _ _ _ _ _ hv (fun z hz => hc z (by simp only [ctxsT, ctxs, List.mem_append, Bool.false_eq_true, if_false] at hz ⊢; rcases hz with h | h; exact .inl (.inr h); exact .inr h)) hF I hf
          | _ => rw [hev] at hv; exact hv.elim
        | block id c => exact Ends.step (fun cs => stepR_block) (go _ _ _ _ _ _ _ _ hv (fun z hz => hc z (by simpa [ctxsT, ctxs] using hz)) hF I hf)
        | loop c => exact Ends.step (fun cs => stepR_loop) (go _ _ _ _ _ _ _ _ hv (fun z hz => hc z (by simp only [ctxsT, ctxs, List.mem_append] at hz ⊢; rcases hz with h | h | h; exact .inl h; exact .inl h; exact .inr h)) hF I hf)
        | exit id =>
          simp only [vgo] at hv
          cases he : exitTo id k with
          | none =>
            rw [he] at hv
            simp only [] at hv
            cases hr : rnd with
            | none => rw [hr] at hv; exact hv.elim
            | some x =>
              obtain ⟨l, L⟩ := x
              rw [hr] at hv hF
              exact ends_round ok I hf hF hv fun c cs v w' h2 => stepR_round_exit (by rw [hro, hr]; rfl) hk he h2
          | some k' =>
            rw [he] at hv
            simp only [] at hv
            cases hbb : (hasBegin k == hasBegin k') with
            | false => rw [hbb] at hv; exact hv.elim
            | true =>
              rw [hbb] at hv
              rw [beq_iff_eq.1 hbb] at hF
              exact Ends.step (fun cs => stepR_exit he) (go _ _ _ _ _ _ _ _ hv (fun z hz => hc z (by simp only [ctxsT, ctxs, List.nil_append]; exact ctxsT_exit he z hz)) hF I hf)
        | ret => exact ends 1 _ _ hv hF (fun h cs => stepR_ret (by rw [hro, h]; rfl)) (fun l L h c cs v w' h2 => stepR_round_ret (by rw [hro, h]; rfl) hk h2)
        | rangeFunc g ps as bd =>
          simp only [vgo] at hv
          have hmem : (lkey as bd, .code (.rangeFunc g ps as bd) :: k) ∈ placesOf rnd.isSome body := hc _ (by simp [ctxsT, ctxs])
          have hloop : ctxAll (lkey as bd) (bodyOf E.P f) = .code (.rangeFunc g ps as bd) :: k := by
            rw [hbo]; exact ctxOf_mem hok.1 (placesOf_in hmem)
          refine vrange_sound ok TS hb I hf hF ⟨k, hloop⟩ hfn hN hv fun j s' a' w' ι' St' H' hk' I' hf' hF' => ?_
          match j, hk' with
          | 0, hk' => exact go _ _ _ _ _ _ _ _ hk' (fun z hz => hc z (by simp only [ctxsT, ctxs, List.mem_append]; exact .inr hz)) hF' I' hf'
          | 1, hk' => exact go _ _ _ _ _ _ _ _ hk' (fun z hz => hc z (by simp only [ctxsT, ctxs, List.mem_append, List.nil_append] at hz ⊢; exact .inr hz)) hF' I' hf'
          | j + 2, hk' => exact go _ _ _ _ _ _ _ _ hk' (fun z hz => hc z (by simp only [ctxsT, ctxs, List.mem_append, List.nil_append] at hz ⊢; exact .inr hz)) hF' I' hf'
        | region id ops draw =>
          have hmem : (id, .code (.region id ops draw) :: k) ∈ placesOf rnd.isSome body := hc _ (by simp [ctxsT, ctxs])
          have hrow := okRows_iff hok.2 _ (placesOf_in hmem)
          simp only [okRow, Bool.and_eq_true] at hrow
          have hds : ∀ o ∈ ops.toList, ∀ d, o.dst = some d → d < N := fun o ho d hd => Nat.lt_of_lt_of_le (dstsIn_iff hrow.2.2 o ho d hd) hN
          have reg : vregion E T ops draw s (fun s' => vgo E T C f fn.results K rnd.isSome n false k s') → Ends E.P b (.code (.region id ops draw) :: k) a w (FPost E rnd f w0 St0 O0 nb ιi K) := by
            intro hv
            have := vregion_sound (ro := b.roundOf) ok TS hm (id := id) hds (fun h => by rw [h] at hrow; exact hrow.2.1) I hf hv (Q := fun e a' w' => e = .normal ∧ Ends E.P b k a' w' (FPost E rnd f w0 St0 O0 nb ιi K))
              (fun s' a' w' ι' St' hk' I' hf' hd' => ⟨rfl, go _ _ _ _ _ _ _ _ hk' (fun z hz => hc z (by simp only [ctxsT, ctxs, List.mem_append]; exact .inr hz)) (hF.defers hd') I' hf'⟩)
            refine .of fun cs => ?_
            obtain ⟨e, a', w', ⟨rfl, hE⟩, harr⟩ := this b k cs rfl trivial (room_wide _)
            exact ⟨k, a', w', StepsIn.steps harr, hE⟩
          simp only [vgo] at hv
          cases st with
          | true => exact reg hv
          | false =>
            cases hcut : cutOf f id E.cuts with
            | none => rw [hcut] at hv; exact reg hv
            | some live =>
              rw [hcut] at hv
              simp only [] at hv
              cases hl : lay s live with
              | none => rw [hl] at hv; exact hv.elim
              | some x =>
                rw [hl] at hv
                obtain ⟨ι', I', hf'⟩ := lay_sound ok I hf hl
                have hat : ctxAll id body = .code (.region id ops draw) :: k := ctxOf_mem hok.1 (placesOf_in hmem)
                have := CS f id live s.nb x.1 x.2 K hcut hv fn N w0 St0 O0 nb ιi H rnd b a w ι' St hfn hN hb hk (by rw [hbo]; exact placesOf_rd hok.1 hmem) (by rw [hbo, hat]; exact hF) hO I' hf'
                rw [hbo, hat] at this
                exact this
        | _ => exact hv.elim
      | _ => exact hv.elim
end
end Go.V

/- V: functions, and tables of functions. -/
set_option linter.unusedVariables false
set_option linter.unusedSimpArgs false
namespace Go.V
variable {U : Nat → Type}

theorem ctxs_in : ∀ (c : Code) (k : List Item), ∀ y ∈ ctxs c k, ∀ x ∈ ctxsT y.2, x ∈ ctxs c k ∨ x ∈ ctxsT k
  | .region id ops d, k, y, hy, x, hx => by
    simp only [ctxs, List.mem_cons, List.not_mem_nil, or_false] at hy
    subst hy
    simpa [ctxsT, ctxs] using hx
  | .seq a b, k, y, hy, x, hx => by
    simp only [ctxs, List.mem_append] at hy ⊢
    rcases hy with hy | hy
    · rcases ctxs_in a _ y hy x hx with h | h
      · exact .inl (.inl h)
      · simp only [ctxsT, List.mem_append] at h
        rcases h with h | h
        · exact .inl (.inr h)
        · exact .inr h
    · rcases ctxs_in b _ y hy x hx with h | h
      · exact .inl (.inr h)
      · exact .inr h
  | .cond c a b, k, y, hy, x, hx => by
    simp only [ctxs, List.mem_append] at hy ⊢
    rcases hy with hy | hy
    · rcases ctxs_in a _ y hy x hx with h | h
      · exact .inl (.inl h)
      · exact .inr h
    · rcases ctxs_in b _ y hy x hx with h | h
      · exact .inl (.inr h)
      · exact .inr h
  | .block i c, k, y, hy, x, hx => by
    simp only [ctxs] at hy ⊢
    rcases ctxs_in c _ y hy x hx with h | h
    · exact .inl h
    · exact .inr h
  | .scope c, k, y, hy, x, hx => by
    simp only [ctxs] at hy ⊢
    rcases ctxs_in c _ y hy x hx with h | h
    · exact .inl h
    · exact .inr h
  | .loop c, k, y, hy, x, hx => by
    simp only [ctxs] at hy ⊢
    rcases ctxs_in c _ y hy x hx with h | h
    · exact .inl h
    · simp only [ctxsT, List.mem_append] at h
      exact h
  | .skip, k, y, hy, x, hx => by simp [ctxs] at hy
  | .exit _, k, y, hy, x, hx => by simp [ctxs] at hy
  | .ret, k, y, hy, x, hx => by simp [ctxs] at hy
  | .label _, k, y, hy, x, hx => by simp [ctxs] at hy
  | .goto _, k, y, hy, x, hx => by simp [ctxs] at hy
  | .rangeFunc g ps a b, k, y, hy, x, hx => by
    simp only [ctxs, List.mem_cons, List.not_mem_nil, or_false] at hy
    subst hy
    simpa [ctxsT, ctxs] using hx
  | .refuse _, k, y, hy, x, hx => by simp [ctxs] at hy

def fnOk (P : Program) (f : FuncId) : Bool := match P.funcs[f]? with
  | some fn => (match fn.body with | some c => okBody fn.ntmps c | .none => false) && !(fn.name == "runtime.NumGoroutine")
  | .none => false

section
variable {E : Env U} {K : A U → List (AObj U) → Prop} {T : Tab U} {C : Cut U} {f : FuncId}

theorem fnOk_spec (h : fnOk E.P f = true) : ∃ fn c, E.P.funcs[f]? = some fn ∧ fn.body = some c ∧ okBody fn.ntmps c = true ∧ (fn.name == "runtime.NumGoroutine") = false := by
  unfold fnOk at h
  cases hf : E.P.funcs[f]? with
  | none => rw [hf] at h; simp at h
  | some fn =>
    rw [hf] at h
    simp only [Bool.and_eq_true, Bool.not_eq_true'] at h
    cases hb : fn.body with
    | none => rw [hb] at h; simp at h
    | some c => rw [hb] at h; exact ⟨fn, c, rfl, hb, h.1, h.2⟩

theorem rvs_nth {w : World} {St : Ck U → Nat → Prop} {ι : Nat → Option Value} : ∀ {args : List (A U)} {vs : List Value} (d : Nat), RVs E w St ι args vs → nth args d = .none ∨ ∃ v, vs[d]? = some v ∧ RV E w St ι (nth args d) v
  | [], vs, d, h => .inl (by simp [nth])
  | a :: l, [], d, h => h.elim
  | a :: l, v :: vs, 0, h => by
    rcases h.1 with h | h
    · exact .inl h
    · exact .inr ⟨v, rfl, h⟩
  | a :: l, v :: vs, d + 1, h => by
    rcases rvs_nth d h.2 with h | ⟨u, h1, h2⟩
    · exact .inl h
    · exact .inr ⟨u, by simpa using h1, h2⟩

theorem vproc_sound (ok : EnvOk2 E) (TS : TSound E T) (CS : CSound E C) (hm : E.P.follows .mixedOrders = true) (hf : fnOk E.P f = true) {args : List (A U)} {objs : List (AObj U)} (hv : vfunc E T C f args objs K) :
    ∀ (w : World) (St : Ck U → Nat → Prop) (ι : Nat → Option Value) (vs : Array Value), RVs E w St ι args vs.toList → HeapR E (nthO objs) w ι St → (∀ m, objs.length ≤ m → ι m = none) → Plain E f (OwnH (nthO objs) ι) →
      Calls E.P f vs w (RetPost E f w St (OwnH (nthO objs) ι) objs.length ι K) := by
  obtain ⟨fn, c, h1, h2, h3, h4⟩ := fnOk_spec hf
  intro w St ι vs hvs hH hout hpl
  unfold vfunc at hv
  have e1 : resOf E.P f = fn.results := by unfold resOf; rw [h1]
  have e2 : bodyOf E.P f = c := by unfold bodyOf; rw [h1]; simp only [h2]
  rw [e1, e2] at hv
  let a : Act := { tmps := vs ++ Array.replicate (fn.ntmps - vs.size) undef, defers := [] }
  let b : Frame := { (default : Frame) with fn := f, kind := .normal, roundOf := .none }
  have henter : Frame.enter E.P f vs .normal = b.atR a [.code c] := by
    simp [Frame.enter, Frame.atR, h1, h2, a, b]
  have hN : fn.ntmps ≤ a.tmps.size := by simp only [a, Array.size_append, Array.size_replicate]; omega
  have I : Inv E a.tmps.size w St (OwnH (nthO objs) ι) (objs.length, ι, []) (S.enter args objs) a.tmps w ι St := by
    refine ⟨⟨rfl, fun d => ?_, hH.obj, hH.dis, hH.stb, hH.apt, hH.sup⟩, Fr.refl _ _, fun B hB => .inl hB, fun g B h => .inl h, fun n hn => rfl, Nat.le_refl _, rfl, fun x hx => (by cases hx), .nil, fun _ _ _ h => h⟩
    show RT E w St ι (nth args d) _
    rcases rvs_nth d hvs with h | ⟨v, e, h⟩
    · rw [h]; exact trivial
    · have : a.tmps.getD d undef = v := by
        simp only [a]
        rw [Array.getD_eq_getD_getElem?, Array.getElem?_append_left]
        · rw [← Array.getElem?_toList, e]; rfl
        · have := (List.getElem?_eq_some_iff.1 e).1; simpa using this
      rw [this]
      exact RT.of_rv h
  have := vgo_sound (rnd := none) ok TS CS hm h1 h2 h3 hN (fun _ => hpl) fuel false [.code c] (S.enter args objs) b a w ι St [] hv (fun x hx => by simpa [ctxsT, placesOf] using hx) rfl rfl ⟨rfl, rfl, fun x hx => by cases hx⟩ I hout
  intro cs
  obtain ⟨e, w', fr, q1, q2, q3, q4⟩ := this.1 rfl cs
  rw [← henter] at q2
  exact ⟨e, w', fr, q1, q2, q3, q4⟩

theorem vfunc_sound (ok : EnvOk2 E) (TS : TSound E T) (CS : CSound E C) (hm : E.P.follows .mixedOrders = true) (hf : fnOk E.P f = true) {args : List (A U)} {objs : List (AObj U)} (hv : vfunc E T C f args objs K) : Nat.blt f 1000000 = true → (memN f E.procs = false → objs = [] → FnSound E f args K) ∧ (memN f E.procs = true → ProcSound E f args objs K) := by
  obtain ⟨fn, c, h1, h2, h3, h4⟩ := fnOk_spec hf
  refine fun _ => ⟨fun hp ho => ⟨⟨fn, h1, by rw [h2]; rfl, h4⟩, fun w St vs hvs hlt hsup => ?_⟩, fun hp => ⟨⟨fn, h1, by rw [h2]; rfl, h4⟩, fun w St ι vs hvs hH hout => ?_⟩⟩
  · subst ho
    have hH : HeapR E (nthO ([] : List (AObj U))) w noNm St := ⟨fun n => by show RO E w St noNm (nthO [] n) _; exact trivial, fun n m B hn => by simp [nthO, isLive] at hn, hlt, fun n B hn => by simp [nthO, isLive] at hn, hsup⟩
    refine (vproc_sound ok TS CS hm hf hv w St noNm vs hvs hH (fun _ _ => rfl) (fun _ B ⟨n, hn, _⟩ => by simp [nthO, isLive] at hn)).mono fun e w' h => ?_
    rcases h with ⟨-, h⟩ | ⟨h, -⟩
    · exact h
    · rw [hp] at h; cases h
  · refine (vproc_sound ok TS CS hm hf hv w St ι vs hvs hH hout (fun h => by rw [hp] at h; cases h)).mono fun e w' h => ?_
    rcases h with ⟨h, -⟩ | ⟨-, h⟩
    · rw [hp] at h; cases h
    · exact h

theorem ctxOf_or (id : Nat) : ∀ l : List (Nat × List Item), ctxOf id l = [] ∨ (id, ctxOf id l) ∈ l := by
  intro l
  induction l with
  | nil => exact .inl rfl
  | cons y l ih =>
    obtain ⟨i, k⟩ := y
    simp only [ctxOf]
    cases hb : Nat.beq i id with
    | true => rw [Nat.eq_of_beq_eq_true hb]; exact .inr (by simp)
    | false =>
      rcases ih with h | h
      · exact .inl (by simpa using h)
      · exact .inr (List.mem_cons_of_mem _ (by simpa using h))

/-- behind a place of a frame come places of the same frame -/
theorem places_ctx {c : Code} {id : Nat} (hn : ((places c).map (·.1)).Nodup) : ∀ x ∈ ctxsT (ctxAll id c), x ∈ placesOf (inRd id c) c := by
  intro x hx
  have hor := ctxOf_or id (places c)
  have e : ctxAll id c = ctxOf id (places c) := rfl
  rw [e] at hx
  rcases hor with h | h
  · rw [h] at hx; simp [ctxsT] at hx
  · rcases List.mem_append.1 h with h | h
    · rw [placesOf_rd (rd := false) hn h]
      rcases ctxs_in c [] _ h x hx with h | h
      · exact h
      · simp [ctxsT] at h
    · rw [placesOf_rd (rd := true) hn h]
      obtain ⟨p, q, h1, h2⟩ := roundC_of _ _ h
      refine roundC_in _ p q x h1 ?_
      rcases h2 with h2 | h2
      · rcases ctxs_in p _ _ h2 x hx with h | h
        · exact .inl h
        · simp only [ctxsT, List.mem_append, List.not_mem_nil, or_false] at h
          exact .inr h
      · rcases ctxs_in q _ _ h2 x hx with h | h
        · exact .inr h
        · simp [ctxsT] at h

theorem vcut_sound (ok : EnvOk2 E) (TS : TSound E T) (CS : CSound E C) (hm : E.P.follows .mixedOrders = true) (hf : fnOk E.P f = true) {id : Nat} {live : List Nat} {nb : Nat} {vals : List (A U)} {objs : List (AObj U)} (hv : vcut E T C f id live nb vals objs K) : CutOk E f id live nb vals objs K := by
  obtain ⟨fn, c, h1, h2, h3, h4⟩ := fnOk_spec hf
  intro fn' N w0 St0 O0 nbi ιi H rnd b a w ι St g1 g2 g3 g4 grd gF hpl g6 g7
  rw [h1] at g1
  obtain rfl := Option.some.inj g1
  unfold vcut at hv
  have e1 : resOf E.P f = fn.results := by unfold resOf; rw [h1]
  have e2 : bodyOf E.P f = c := by unfold bodyOf; rw [h1]; simp only [h2]
  rw [grd, e1, e2] at hv
  rw [e2] at gF grd ⊢
  have hn := h3
  unfold okBody at hn
  simp only [Bool.and_eq_true, fstN_eq, distinctN_iff] at hn
  exact vgo_sound ok TS CS hm h1 h2 h3 g2 hpl fuel true _ _ b a w ι St H hv (fun x hx => by rw [← grd]; exact places_ctx hn.1 x hx) g3 g4 gF g6 g7

theorem vround_sound (ok : EnvOk2 E) (TS : TSound E T) (CS : CSound E C) (hm : E.P.follows .mixedOrders = true) (hf : fnOk E.P f = true) {id : Nat} {args : List (A U)} {objs : List (AObj U)} (hv : vround E T C f id args objs K) : RoundSound E f id args objs K := by
  obtain ⟨fn, c, h1, h2, h3, h4⟩ := fnOk_spec hf
  have e1 : resOf E.P f = fn.results := by unfold resOf; rw [h1]
  have e2 : bodyOf E.P f = c := by unfold bodyOf; rw [h1]; simp only [h2]
  have hn := h3
  unfold okBody at hn
  simp only [Bool.and_eq_true, fstN_eq, distinctN_iff] at hn
  unfold vround at hv
  rw [e1, e2] at hv
  split at hv
  rotate_left
  · exact hv.elim
  rename_i g ps p q k live hctx hlive
  cases hb : (Nat.beq args.length (ps.toList.length + live.length) && distinctN (ps.toList ++ live)) with
  | false => rw [hb] at hv; exact hv.elim
  | true =>
  rw [hb] at hv
  simp only [cond_true] at hv
  simp only [Bool.and_eq_true, distinctN_iff] at hb
  have hlen := Nat.eq_of_beq_eq_true hb.1
  have hmem : (1000000 + id, .code (.rangeFunc g ps p q) :: k) ∈ places c := by
    have e : ctxAll (1000000 + id) c = ctxOf (1000000 + id) (places c) := rfl
    rcases ctxOf_or (1000000 + id) (places c) with h | h
    · rw [← e, hctx] at h; cases h
    · rwa [← e, hctx] at h
  have hrow := okRows_iff hn.2 _ hmem
  simp only [okRow, Bool.and_eq_true, List.all_eq_true, Nat.blt_eq] at hrow
  have same : ∀ live' L, LoopIs E f id live' L → live' = live ∧ L.params = ps ∧ L.assign = p ∧ L.body = q ∧ L.fn = f ∧ fn.ntmps ≤ L.tmps.size := by
    rintro live' L ⟨⟨l1, l2⟩, ⟨g', k', l3⟩, fn', l4, l5⟩
    rw [hlive] at l1
    rw [e2, hctx] at l3
    rw [h1] at l4
    obtain rfl := Option.some.inj l4
    simp only [List.cons.injEq, Item.code.injEq, Code.rangeFunc.injEq] at l3
    obtain ⟨⟨-, l6, l7, l8⟩, -⟩ := l3
    exact ⟨(Option.some.inj l1).symm, l6.symm, l7.symm, l8.symm, l2, l5⟩
  refine ⟨fun live' L hL => ?_, fun ro w St ι l live' L tm hL htm hvs hH hout hheap hst hno hnst => ?_⟩
  · obtain ⟨rfl, l6, l7, l8, l9, l10⟩ := same live' L hL
    rw [l6]
    exact ⟨by rw [hlen]; simp, hb.2, fun p hp => Nat.lt_of_lt_of_le (hrow.2 p hp) l10⟩
  · obtain ⟨rfl, l6, l7, l8, l9, l10⟩ := same live' L hL
    let a : Act := { tmps := tm, defers := [] }
    let b : Frame := { (default : Frame) with fn := f, kind := .normal, roundOf := some l }
    have henter : Frame.round l f tm L.assign L.body .normal = b.atR a (roundT p q) := by
      rw [l7, l8]
      simp [Frame.round, Frame.atR, roundT, a, b]
    have hLr : ({ L with state := if hasBegin (roundT p q) then .ready else .busy } : Loop) = L := by
      have : hasBegin (roundT p q) = true := rfl
      rw [this, if_pos rfl, ← hst]
    have I : Inv E tm.size w St (fun B => OwnH (nthO objs) ι B ∨ B = l) (objs.length, ι, [(l, .loop L)]) (S.ofLay (ps.toList ++ live') objs.length args objs) a.tmps w ι St := by
      rw [l6] at hvs
      refine ⟨⟨rfl, fun d => hvs.holds'.pairUp d, hH.obj, hH.dis, hH.stb, hH.apt, hH.sup⟩, Fr.refl _ _, fun B hB => .inl (.inl hB), fun g B h => .inl h, fun n hn => rfl, Nat.le_refl _, rfl, fun x hx => ?_, by simp, fun _ _ _ h => h⟩
      simp only [List.mem_cons, List.not_mem_nil, or_false] at hx
      subst hx
      exact ⟨hheap, hno, hnst, .inl (.inr rfl)⟩
    have := vgo_sound (rnd := some (l, L)) ok TS CS hm h1 h2 h3 (by rw [htm]; exact l10) (fun h => by cases h) fuel false (roundT p q) _ b a w ι St [(l, .loop L)] hv (roundT_places (places_rnds hmem rfl)) rfl rfl ⟨rfl, rfl, by rw [hLr]⟩ I hout
    refine ⟨trivial, fun c' cs _ => ?_⟩
    obtain ⟨v, w', q1, q2⟩ := this.2 (by simp [b]) c' cs
    rw [← henter] at q2
    exact ⟨.returned v, w', q1, stepsIn_wide.2 q2⟩

theorem RowSound.of_fn (hf : Nat.blt f 1000000 = true) {args : List (A U)} {objs : List (AObj U)} (h : Nat.blt f 1000000 = true → (memN f E.procs = false → objs = [] → FnSound E f args K) ∧ (memN f E.procs = true → ProcSound E f args objs K)) : RowSound E f args objs K := by
  refine ⟨h, fun g id _ e => ?_⟩
  rw [Nat.blt_eq] at hf
  have e' : @Eq Nat f (1000000 * (g + 1) + id) := e
  have hf' : @LT.lt Nat _ f 1000000 := hf
  omega
theorem RowSound.of_round {g id : Nat} (hid : Nat.blt id 1000000 = true) {args : List (A U)} {objs : List (AObj U)} (h : RoundSound E g id args objs K) : RowSound E (ykey g id) args objs K := by
  rw [Nat.blt_eq] at hid
  refine ⟨fun h => ?_, fun g' id' hi e => ?_⟩
  · rw [Nat.blt_eq] at h
    have h' : 1000000 * (g + 1) + id < 1000000 := h
    omega
  · rw [Nat.blt_eq] at hi
    have e' : @Eq Nat (1000000 * (g + 1) + id) (1000000 * (g' + 1) + id') := e
    obtain rfl : @Eq Nat g g' := by omega
    obtain rfl : @Eq Nat id id' := by omega
    exact h

/-- tables, by how deep they may call -/
theorem tables (ok : EnvOk2 E) (hm : E.P.follows .mixedOrders = true) {T : Nat → Tab U} {C : Nat → Cut U} (hT0 : ∀ f args objs K, ¬ T 0 f args objs K) (hC0 : ∀ f id nb vals objs K, ¬ C 0 f id nb vals objs K)
    (hT : ∀ k f args objs K, T (k + 1) f args objs K → (fnOk E.P f = true ∧ Nat.blt f 1000000 = true ∧ vfunc E (T k) (C k) f args objs K) ∨ (∃ g id, f = ykey g id ∧ fnOk E.P g = true ∧ Nat.blt id 1000000 = true ∧ vround E (T k) (C k) g id args objs K) ∨ (TSound E (T k) → RowSound E f args objs K))
    (hC : ∀ k f id live nb vals objs K, cutOf f id E.cuts = some live → C (k + 1) f id nb vals objs K → fnOk E.P f = true ∧ vcut E (T k) (C k) f id live nb vals objs K) :
    ∀ k, TSound E (T k) ∧ CSound E (C k)
  | 0 => ⟨fun f args objs K h => absurd h (hT0 f args objs K), fun f id live nb vals objs K _ h => absurd h (hC0 f id nb vals objs K)⟩
  | k + 1 => by
    obtain ⟨h1, h2⟩ := tables ok hm hT0 hC0 hT hC k
    refine ⟨fun f args objs K h => ?_, fun f id live nb vals objs K hc h => ?_⟩
    · rcases hT k f args objs K h with ⟨g1, g2, g3⟩ | ⟨g, id, rfl, g1, g2, g3⟩ | h
      · exact RowSound.of_fn g2 (vfunc_sound ok h1 h2 hm g1 g3)
      · exact RowSound.of_round g2 (vround_sound ok h1 h2 hm g1 g3)
      · exact h h1
    · obtain ⟨g1, g2⟩ := hC k f id live nb vals objs K hc h
      exact vcut_sound ok h1 h2 hm g1 g2
end
end Go.V
#print axioms Go.V.tables

/- V: a knot's digest is laid into it, once. -/
set_option linter.unusedVariables false
set_option linter.unusedSimpArgs false
namespace Go.V
variable {U : Nat → Type}
def ktSize {α : Type} : KT α → Nat
  | .nil => 0
  | .node _ _ l r => 1 + ktSize l + ktSize r
/-- the knots of smaller trees -/
def smallK (St : Ck U → Nat → Prop) (n : Nat) (g : Ck U) (B : Nat) : Prop := match g with
  | .on b => St (.on b) B
  | .kn c y => St (.kn c y) B ∧ ktSize y < n
section
variable {E : Env U} {w : World} {St : Ck U → Nat → Prop}
theorem smallK_le {n : Nat} {g : Ck U} {B : Nat} (h : smallK St n g B) : St g B := by
  cases g with
  | on b => exact h
  | kn c y => exact h.1
theorem smallK_an {n B : Nat} (h : An (smallK St n) B) : An St B := h.imp fun g h => smallK_le h
theorem KP.small {n : Nat} {c : Nat} {x : KT (U c)} {v : Value} (h : KP St c x [] v) (hx : ktSize x < n) : KP (smallK St n) c x [] v :=
  h.imp id fun ⟨h1, h2, B, h3, h4⟩ => ⟨h1, h2, B, h3, h4, hx⟩
theorem RC.small (ok : EnvOk2 E) {n : Nat} {ι ι' : Nat → Option Value} {l : List (A U)} {cs : List Value} {bs : List Nat} (h : RC E w St ι l cs bs) (hc : closeds l = true) : RC E w (smallK St n) ι' l cs bs :=
  h.closed ok.toEnvOk (St' := smallK St n) (ι' := ι') (fun B (h : St (.on false) B) => h) hc
theorem smallK_sup (ok : EnvOk2 E) (hg : ∀ g, E.glob g = .none ∨ closed (E.glob g) = true) (h : Sup E w St) (n : Nat) : Sup E w (smallK St n) := by
  refine ⟨fun B h1 => h.up B h1, fun c x B h1 ⟨g, h2⟩ => h.cls c x B h1.1 ⟨g, h2⟩, fun g => ?_, fun c x B h1 => ?_, fun c x c' x' B h1 h2 => h.one _ _ _ _ _ h1.1 h2.1⟩
  · rcases hg g with e | e
    · rw [e]; trivial
    · have h2 := h.glo g
      have key : RV E w St noNm (E.glob g) (.pointer (some ⟨g, 0, .none⟩)) → RV E w (smallK St n) noNm (E.glob g) (.pointer (some ⟨g, 0, .none⟩)) := fun h => ⟨h.1.small ok (by simp [closeds, e]), h.2⟩
      revert h2 e key
      generalize E.glob g = q
      intro e h2 key
      cases q with
      | none => simp [closed] at e
      | tup l => simp [closed] at e
      | _ => exact key h2
  · obtain ⟨hc, h2⟩ := h.kn c x B h1.1
    subst hc
    refine ⟨rfl, ?_⟩
    cases x with
    | nil => exact h2
    | node g v l r =>
      obtain ⟨ms, ls, pl, pr, K⟩ := h2
      have hs : ktSize (.node g v l r) < n := h1.2
      simp only [ktSize] at hs
      refine ⟨ms, ls, pl, pr, K.at_, K.there, K.leaf.small ok (by simp [closeds, ok.clo]), K.lt.small (by omega), K.rt.small (by omega), ?_, K.len⟩
      obtain ⟨os, ds, m1, m2⟩ := K.memo
      exact ⟨os, ds, m1, m2.imp (fun ⟨h, dl, h2⟩ => ⟨h, dl, h2.small ok (by simp [closeds, V.closed])⟩) fun h => ⟨h.1, h.2.small ok (by simp [closeds, ok.kdg])⟩⟩

/-- a knot's box, as its digest's function has it: the thing is being done -/
def knotObj (E : Env U) (v : U E.kn.c) (l r : KT (U E.kn.c)) (dl : List (U E.kn.dc)) : AObj U :=
  .box (.agg [.agg [.agg [.int .u32 0, .int .i32 1, .int .u32 0], .arr E.kn.dc E.kn.dn dl], E.enc _ v, .tr _ l [], .tr _ r []])
def ptrTo (b : Nat) : Value := .pointer (some ⟨b, 0, .none⟩)
def nm3 (b0 b1 b2 : Nat) : Nat → Option Value
  | 0 => some (ptrTo b0)
  | 1 => some (ptrTo b1)
  | 2 => some (ptrTo b2)
  | _ => none
theorem nm3_out {b0 b1 b2 m : Nat} (h : 3 ≤ m) : nm3 b0 b1 b2 m = none := by
  obtain ⟨k, rfl⟩ : ∃ k, m = k + 3 := ⟨m - 3, by omega⟩
  rfl
theorem nm3_blk {b0 b1 b2 n B : Nat} (h : blkO (nm3 b0 b1 b2 n) = some B) : (n = 0 ∧ B = b0) ∨ (n = 1 ∧ B = b1) ∨ (n = 2 ∧ B = b2) := by
  rcases n with - | - | - | n
  · simp only [nm3, blkO, Option.bind_some, ptrTo, blk, base, Option.map_some, Option.some.injEq] at h; exact .inl ⟨rfl, h.symm⟩
  · simp only [nm3, blkO, Option.bind_some, ptrTo, blk, base, Option.map_some, Option.some.injEq] at h; exact .inr (.inl ⟨rfl, h.symm⟩)
  · simp only [nm3, blkO, Option.bind_some, ptrTo, blk, base, Option.map_some, Option.some.injEq] at h; exact .inr (.inr ⟨rfl, h.symm⟩)
  · simp [nm3, blkO] at h

theorem setCell_eq (w : World) (B o : Nat) (v : Value) : w.setCell ⟨B, o, .none⟩ v = w.setCells B o [v] := rfl

/-- before -/
theorem once_heap (ok : EnvOk2 E) (hg : ∀ g, E.glob g = .none ∨ closed (E.glob g) = true) (hS : Sup E w St) (lt : ∀ B, An St B → B < w.heap.size) {g : Int} {v : U E.kn.c} {l r : KT (U E.kn.c)} {B b0 b1 : Nat} {w0 : Int} {t0 t1 : TypeId}
    (hx : St (.kn E.kn.c (.node g v l r)) B) {ms ls : List Value} {pl pr : Value} (K : KnotIs E w St g v l r B ms ls pl pr) {ds : List Value} (hms : ms = [.int .u32 0, .int .i32 0, .int .u32 0] ++ ds) {dl : List (U E.kn.dc)}
    (hds : RC E w St noNm [.arr E.kn.dc E.kn.dn dl] ds []) (h0 : w.heap[b0]? = some (.cells #[ptrTo B] t0)) (h1 : w.heap[b1]? = some (.cells #[.int .i64 w0] t1)) (a0 : ¬ An St b0) (a1 : ¬ An St b1) (n01 : b0 ≠ b1) :
    HeapR E (nthO [.box (.ptr 2 []), .box (.int .i64 w0), knotObj E v l r dl]) (w.setCell ⟨B, 1, .none⟩ (.int .i32 1)) (nm3 b0 b1 B) (smallK St (ktSize (.node g v l r))) := by
  have hB : An St B := ⟨_, hx⟩
  have n0 : b0 ≠ B := fun e => a0 (e ▸ hB)
  have n1 : b1 ≠ B := fun e => a1 (e ▸ hB)
  have hBlt := lt B hB
  have hB1 : ¬ An (smallK St (ktSize (.node g v l r))) B := by
    rintro ⟨q, h⟩
    cases q with
    | on b => exact hS.cls _ _ B hx ⟨b, h⟩
    | kn c y =>
      have e := hS.one _ _ _ _ B hx h.1
      cases e
      exact absurd h.2 (Nat.lt_irrefl _)
  have hsame : ∀ b, b ≠ B → (w.setCell ⟨B, 1, .none⟩ (.int .i32 1)).heap[b]? = w.heap[b]? := fun b h => heap_setCell w _ _ b h
  have hsz : (w.setCell ⟨B, 1, .none⟩ (.int .i32 1)).heap.size = w.heap.size := by simp
  have S1 := smallK_sup ok hg hS (ktSize (.node g v l r))
  have X : Ext w (smallK St (ktSize (.node g v l r))) noNm (w.setCell ⟨B, 1, .none⟩ (.int .i32 1)) (smallK St (ktSize (.node g v l r))) noNm :=
    ⟨fun _ _ h => h, fun _ _ h => h, fun b hb => hsame b fun e => hB1 (e ▸ hb.an), by omega⟩
  have S2 : Sup E (w.setCell ⟨B, 1, .none⟩ (.int .i32 1)) (smallK St (ktSize (.node g v l r))) := S1.ext X S1.up S1.cls (fun _ _ _ h => h) fun b hb => hsame b fun e => hB1 (e ▸ hb.an)
  have live : ∀ n, isLive (nthO [(.box (.ptr 2 []) : AObj U), .box (.int .i64 w0), knotObj E v l r dl] n) = true → n < 3 := fun n h => by
    rcases n with - | - | - | n
    · omega
    · omega
    · omega
    · simp [nthO, isLive] at h
  have one : ∀ (b : Nat) (x : Value) (t : TypeId), w.heap[b]? = some (.cells #[x] t) → b ≠ B → (w.setCell ⟨B, 1, .none⟩ (.int .i32 1)).rangeAt b 0 [x] ∧ (w.setCell ⟨B, 1, .none⟩ (.int .i32 1)).there b 0 1 ∧ b < (w.setCell ⟨B, 1, .none⟩ (.int .i32 1)).heap.size := by
    intro b x t hb hne
    have hh := (hsame b hne).trans hb
    refine ⟨fun j y hj => ?_, fun j hj => ?_, by rw [hsz]; exact (Array.getElem?_eq_some_iff.1 hb).1⟩
    · rcases j with - | j
      · simp only [List.getElem?_cons_zero, Option.some.injEq] at hj
        subst hj
        simp only [World.cell?, hh]; rfl
      · simp at hj
    · obtain rfl : j = 0 := by omega
      simp only [World.cell?, World.frozen?, hh]
      exact ⟨rfl, rfl⟩
  refine ⟨fun n => ?_, fun n m b hn hm e1 e2 => ?_, fun b hb => by rw [hsz]; exact lt b (smallK_an hb), fun n b hn e1 h => ?_, S2⟩
  · rcases n with - | - | - | n
    · obtain ⟨r1, r2, r3⟩ := one b0 _ _ h0 n0
      refine ⟨b0, [ptrTo B], rfl, ?_, r1, r2, r3⟩
      have : RC E (w.setCell ⟨B, 1, .none⟩ (.int .i32 1)) (smallK St (ktSize (.node g v l r))) (nm3 b0 b1 B) [.ptr 2 []] [.pointer (some ⟨B, 0 + po [], .none⟩)] [] := .ptr (v := ptrTo B) rfl rfl trivial .nil
      exact this
    · obtain ⟨r1, r2, r3⟩ := one b1 _ _ h1 n1
      exact ⟨b1, [.int .i64 w0], rfl, .int .nil, r1, r2, r3⟩
    · have hr := range_splice (w := w) (B := B) (off := 0) (k := 1) (ds := [.int .i32 1]) K.at_ (by rw [hms]; simp)
      have ht := there_setCells (w := w) (B := B) (B' := B) (o := 1) (ds := [.int .i32 1]) K.there
      rw [Nat.zero_add, ← setCell_eq] at hr
      rw [← setCell_eq] at ht
      have hcs : (ms ++ (ls ++ [pl, pr])).take 1 ++ ([Value.int .i32 1] ++ (ms ++ (ls ++ [pl, pr])).drop (1 + [Value.int .i32 1].length)) = (([.int .u32 0, .int .i32 1, .int .u32 0] ++ ds) ++ (ls ++ ([pl] ++ [pr]))) := by
        rw [hms]; simp
      have hlen : (ms ++ (ls ++ [pl, pr])).length = (([Value.int .u32 0, .int .i32 1, .int .u32 0] ++ ds) ++ (ls ++ ([pl] ++ [pr]))).length := by rw [hms]; simp
      rw [hcs] at hr
      rw [hlen] at ht
      refine ⟨B, _, rfl, ?_, hr, ht, by rw [hsz]; exact hBlt⟩
      have hs : ktSize l < ktSize (.node g v l r) ∧ ktSize r < ktSize (.node g v l r) := by simp only [ktSize]; omega
      have e1 : RC E (w.setCell ⟨B, 1, .none⟩ (.int .i32 1)) (smallK St (ktSize (.node g v l r))) (nm3 b0 b1 B) [.agg [.agg [.int .u32 0, .int .i32 1, .int .u32 0], .arr E.kn.dc E.kn.dn dl]] ([.int .u32 0, .int .i32 1, .int .u32 0] ++ ds) [] := by
        have f1 : RC E (w.setCell ⟨B, 1, .none⟩ (.int .i32 1)) (smallK St (ktSize (.node g v l r))) (nm3 b0 b1 B) [.agg [.int .u32 0, .int .i32 1, .int .u32 0]] [.int .u32 0, .int .i32 1, .int .u32 0] [] := by
          simpa using RC.agg (.int (.int (.int .nil))) .nil
        have f2 := (hds.small ok (n := ktSize (.node g v l r)) (ι' := noNm) (by simp [closeds, V.closed])).ext X
        have f3 := f2.closed ok.toEnvOk (St' := smallK St (ktSize (.node g v l r))) (ι' := nm3 b0 b1 B) (fun B h => h) (by simp [closeds, V.closed])
        simpa using RC.agg (RC.cons f1 f3) .nil
      have e2 := ((K.leaf.small ok (n := ktSize (.node g v l r)) (ι' := noNm) (by simp [closeds, ok.clo])).ext X).closed ok.toEnvOk (St' := smallK St (ktSize (.node g v l r))) (ι' := nm3 b0 b1 B) (fun B h => h) (by simp [closeds, ok.clo])
      have e3 : RC E (w.setCell ⟨B, 1, .none⟩ (.int .i32 1)) (smallK St (ktSize (.node g v l r))) (nm3 b0 b1 B) [.tr _ l [], .tr _ r []] ([pl] ++ [pr]) [] := .tr (K.lt.small hs.1) (.tr (K.rt.small hs.2) .nil)
      simpa using RC.agg (RC.cons e1 (RC.cons e2 e3)) .nil
    · exact trivial
  · rcases nm3_blk e1 with ⟨rfl, rfl⟩ | ⟨rfl, rfl⟩ | ⟨rfl, rfl⟩ <;> rcases nm3_blk e2 with ⟨rfl, h⟩ | ⟨rfl, h⟩ | ⟨rfl, h⟩ <;> first | rfl | exact absurd h (by first | exact n01 | exact n0 | exact n1 | exact Ne.symm n01 | exact Ne.symm n0 | exact Ne.symm n1)
  · rcases nm3_blk e1 with ⟨rfl, rfl⟩ | ⟨rfl, rfl⟩ | ⟨rfl, rfl⟩
    · exact a0 (smallK_an h)
    · exact a1 (smallK_an h)
    · exact hB1 h

theorem knot_cells {w : World} {St : Ck U → Nat → Prop} {ι : Nat → Option Value} {a : Int} {v : A U} {l r : KT (U E.kn.c)} {dl : List (U E.kn.dc)} {cs : List Value} (h : RC E w St ι [.agg [.agg [.agg [.int .u32 0, .int .i32 1, .int .u32 0], .arr E.kn.dc E.kn.dn dl], v, .tr _ l [], .tr _ r []]] cs []) :
    ∃ ds ls pl pr, cs = ([.int .u32 0, .int .i32 1, .int .u32 0] ++ ds) ++ (ls ++ [pl, pr]) ∧ RC E w St ι [.arr E.kn.dc E.kn.dn dl] ds [] ∧ RC E w St ι [v] ls [] ∧ KP St _ l [] pl ∧ KP St _ r [] pr := by
  obtain ⟨c1, c2, b1, b2, rfl, hb, q1, q2⟩ := RC.cons_inv h.agg_inv
  obtain ⟨rfl, rfl⟩ := nil_or hb
  obtain ⟨c3, c4, b1, b2, rfl, hb, q3, q4⟩ := RC.cons_inv q2
  obtain ⟨rfl, rfl⟩ := nil_or hb
  obtain ⟨c5, c6, b1, b2, rfl, hb, q5, q6⟩ := RC.cons_inv q4
  obtain ⟨rfl, rfl⟩ := nil_or hb
  obtain ⟨d1, d2, b1, b2, rfl, hb, u1, u2⟩ := RC.cons_inv q1.agg_inv
  obtain ⟨rfl, rfl⟩ := nil_or hb
  cases q5 with
  | @tr _ _ _ pl _ _ _ k1 n1 =>
  cases n1
  cases q6 with
  | @tr _ _ _ pr _ _ _ k2 n2 =>
  cases n2
  have := u1.agg_inv
  cases this with
  | int h1 =>
  cases h1 with
  | int h1 =>
  cases h1 with
  | int h1 =>
  cases h1
  exact ⟨d2, c3, pl, pr, by simp, u2, q3, k1, k2⟩

/-- behind -/
theorem once_done (ok : EnvOk2 E) (hS : Sup E w St) (lt : ∀ B, An St B → B < w.heap.size) {g : Int} {v : U E.kn.c} {l r : KT (U E.kn.c)} {B b0 b1 : Nat} {w0 : Int}
    (hx : St (.kn E.kn.c (.node g v l r)) B) (l0 : b0 < w.heap.size) (l1 : b1 < w.heap.size) (a0 : ¬ An St b0) (a1 : ¬ An St b1) {dl dl' : List (U E.kn.dc)} (hlen : 3 + E.kn.dn * E.sz E.kn.dc = size E.sz E.kn.mz)
    (hdg : E.kn.dg g (.node g v l r) = .arr E.kn.dc E.kn.dn dl') {K : A U → List (AObj U) → Prop} {v' : Value} {w' : World} {r' : A U} {ι' : Nat → Option Value} {St' : Ck U → Nat → Prop}
    (q : ResP E (w.setCell ⟨B, 1, .none⟩ (.int .i32 1)) (smallK St (ktSize (.node g v l r))) (OwnH (nthO [.box (.ptr 2 []), .box (.int .i64 w0), knotObj E v l r dl]) (nm3 b0 b1 B)) (nm3 b0 b1 B) 3 K v' w' r' [.box (.ptr 2 []), .box (.int .i64 w0), knotObj E v l r dl'] ι' St') :
    (w'.cell? ⟨B, 0, .none⟩ = some (.int .u32 0) ∧ w'.frozen? ⟨B, 0, .none⟩ = false ∧ w'.cell? ⟨B, 1, .none⟩ = some (.int .i32 1) ∧ w'.frozen? ⟨B, 1, .none⟩ = false) ∧
    Sup E ((w'.drew.setCell ⟨B, 0, .none⟩ (.int .u32 1)).setCell ⟨B, 1, .none⟩ (.int .i32 0)) (fun g b => St g b ∨ St' g b) ∧
    (∃ ds, RC E ((w'.drew.setCell ⟨B, 0, .none⟩ (.int .u32 1)).setCell ⟨B, 1, .none⟩ (.int .i32 0)) (fun g b => St g b ∨ St' g b) noNm [.arr E.kn.dc E.kn.dn dl'] ds [] ∧ ((w'.drew.setCell ⟨B, 0, .none⟩ (.int .u32 1)).setCell ⟨B, 1, .none⟩ (.int .i32 0)).rangeAt B 3 ds) ∧
    ((w'.drew.setCell ⟨B, 0, .none⟩ (.int .u32 1)).setCell ⟨B, 1, .none⟩ (.int .i32 0)).cell? ⟨b0, 0, .none⟩ = some (ptrTo B) ∧
    Fr (fun b => (b = b0 ∨ b = b1) ∨ KnB St b) w ((w'.drew.setCell ⟨B, 0, .none⟩ (.int .u32 1)).setCell ⟨B, 1, .none⟩ (.int .i32 0)) ∧
    (∀ g b, St' g b → St g b ∨ w.heap.size ≤ b) ∧ (∀ b, An St' b → b < w'.heap.size) := by
  have hB : An St B := ⟨_, hx⟩
  have hBlt := lt B hB
  have n0 : b0 ≠ B := fun e => a0 (e ▸ hB)
  have n1 : b1 ≠ B := fun e => a1 (e ▸ hB)
  have hsz1 : (w.setCell ⟨B, 1, .none⟩ (.int .i32 1)).heap.size = w.heap.size := by simp
  have i0 : ι' 0 = some (ptrTo b0) := q.old 0 (by omega)
  have i1 : ι' 1 = some (ptrTo b1) := q.old 1 (by omega)
  have i2 : ι' 2 = some (ptrTo B) := q.old 2 (by omega)
  have p0 : ¬ An St' b0 := q.heap.apt 0 b0 rfl (by rw [i0]; rfl)
  have p1 : ¬ An St' b1 := q.heap.apt 1 b1 rfl (by rw [i1]; rfl)
  have p2 : ¬ An St' B := q.heap.apt 2 B rfl (by rw [i2]; rfl)
  have own : ∀ b, OwnH (nthO [(.box (.ptr 2 []) : AObj U), .box (.int .i64 w0), knotObj E v l r dl]) (nm3 b0 b1 B) b → b = b0 ∨ b = b1 ∨ b = B := fun b ⟨n, _, h⟩ => by
    rcases nm3_blk h with ⟨-, h⟩ | ⟨-, h⟩ | ⟨-, h⟩
    · exact .inl h
    · exact .inr (.inl h)
    · exact .inr (.inr h)
  have gr : ∀ g b, St' g b → St g b ∨ w.heap.size ≤ b := fun g b h => by
    rcases q.gr g b h with h1 | h1 | h1
    · exact .inl (smallK_le h1)
    · rcases own b h1 with rfl | rfl | rfl
      · exact absurd ⟨g, h⟩ p0
      · exact absurd ⟨g, h⟩ p1
      · exact absurd ⟨g, h⟩ p2
    · rw [hsz1] at h1; exact .inr h1
  -- what was not turned
  have same1 : ∀ b, b < w.heap.size → b ≠ b0 → b ≠ b1 → b ≠ B → ¬ KnB (smallK St (ktSize (.node g v l r))) b → w'.heap[b]? = w.heap[b]? := fun b hb e0 e1 e2 hk => by
    rw [q.fr.same b (by rw [hsz1]; exact hb) fun h => h.elim (fun h => by rcases own b h with h | h | h; exact e0 h; exact e1 h; exact e2 h) hk]
    exact heap_setCell w _ _ b e2
  have same2 : ∀ b, b ≠ B → ((w'.drew.setCell ⟨B, 0, .none⟩ (.int .u32 1)).setCell ⟨B, 1, .none⟩ (.int .i32 0)).heap[b]? = w'.heap[b]? := fun b hb => by
    rw [heap_setCell _ _ _ b hb, heap_setCell _ _ _ b hb]; rfl
  have hsz2 : ((w'.drew.setCell ⟨B, 0, .none⟩ (.int .u32 1)).setCell ⟨B, 1, .none⟩ (.int .i32 0)).heap.size = w'.heap.size := by simp
  have hszw : w.heap.size ≤ w'.heap.size := by have := q.fr.size; rwa [hsz1] at this
  have X' : Ext w' St' noNm ((w'.drew.setCell ⟨B, 0, .none⟩ (.int .u32 1)).setCell ⟨B, 1, .none⟩ (.int .i32 0)) (fun g b => St g b ∨ St' g b) noNm :=
    ⟨fun _ _ h => .inr h, fun _ _ h => h, fun b hb => same2 b fun e => p2 (e ▸ hb.an), by omega⟩
  have X : Ext w St noNm ((w'.drew.setCell ⟨B, 0, .none⟩ (.int .u32 1)).setCell ⟨B, 1, .none⟩ (.int .i32 0)) (fun g b => St g b ∨ St' g b) noNm :=
    ⟨fun _ _ h => .inl h, fun _ _ h => h, fun b hb => by
      have e2 : b ≠ B := fun e => hS.cls _ _ B hx (e ▸ hb)
      rw [same2 b e2]
      exact same1 b (lt b hb.an) (fun e => a0 (e ▸ hb.an)) (fun e => a1 (e ▸ hb.an)) e2 fun ⟨c, y, h⟩ => hS.cls c y b h.1 hb, by omega⟩
  -- the knot's cells
  have ho := q.heap.obj 2
  rw [i2] at ho
  obtain ⟨B', cs, e, rc, ra, th, -⟩ := ho
  obtain rfl : B = B' := by simpa [ptrTo] using e
  obtain ⟨ds, ls, pl, pr, rfl, rds, rls, kl, kr⟩ := knot_cells (a := 0) rc
  have hds : ds.length = E.kn.dn * E.sz E.kn.dc := by
    have := rds.length ok.toEnvOk
    simpa [sizes, size] using this
  have r2 : ((w'.drew.setCell ⟨B, 0, .none⟩ (.int .u32 1)).setCell ⟨B, 1, .none⟩ (.int .i32 0)).rangeAt B 0 (([.int .u32 1, .int .i32 0, .int .u32 0] ++ ds) ++ (ls ++ [pl, pr])) := by
    have h1 := range_splice (w := w'.drew) (B := B) (off := 0) (k := 0) (ds := [.int .u32 1]) ra (by simp)
    have h2 := range_splice (w := w'.drew.setCells B (0 + 0) [.int .u32 1]) (B := B) (off := 0) (k := 1) (ds := [.int .i32 0]) h1 (by simp)
    show ((w'.drew.setCells B 0 [.int .u32 1]).setCells B 1 [.int .i32 0]).rangeAt B 0 _
    simpa using h2
  have t2 : ((w'.drew.setCell ⟨B, 0, .none⟩ (.int .u32 1)).setCell ⟨B, 1, .none⟩ (.int .i32 0)).there B 0 (([Value.int .u32 1, .int .i32 0, .int .u32 0] ++ ds) ++ (ls ++ [pl, pr])).length := by
    have h1 := there_setCells (w := w'.drew) (B := B) (B' := B) (o := 0) (ds := [.int .u32 1]) th
    have h2 := there_setCells (w := w'.drew.setCells B 0 [.int .u32 1]) (B := B) (B' := B) (o := 1) (ds := [.int .i32 0]) h1
    show ((w'.drew.setCells B 0 [.int .u32 1]).setCells B 1 [.int .i32 0]).there B 0 _
    simpa using h2
  have rds2 : RC E ((w'.drew.setCell ⟨B, 0, .none⟩ (.int .u32 1)).setCell ⟨B, 1, .none⟩ (.int .i32 0)) (fun g b => St g b ∨ St' g b) noNm [.arr E.kn.dc E.kn.dn dl'] ds [] :=
    (rds.closed ok.toEnvOk (St' := St') (ι' := noNm) (fun _ h => h) (by simp [closeds, V.closed])).ext X'
  have K2 : KnotIs E ((w'.drew.setCell ⟨B, 0, .none⟩ (.int .u32 1)).setCell ⟨B, 1, .none⟩ (.int .i32 0)) (fun g b => St g b ∨ St' g b) g v l r B ([.int .u32 1, .int .i32 0, .int .u32 0] ++ ds) ls pl pr :=
    ⟨r2, t2, (rls.closed ok.toEnvOk (St' := St') (ι' := noNm) (fun _ h => h) (by simp [closeds, ok.clo])).ext X', kl.mono X'.st, kr.mono X'.st, ⟨_, ds, rfl, .inr ⟨rfl, by rw [hdg]; exact rds2⟩⟩, by simp; omega⟩
  refine ⟨⟨?_, ?_, ?_, ?_⟩, ⟨fun b h => h.imp (hS.up b) (q.heap.sup.up b), fun c y b h ⟨p, hr⟩ => ?_, fun p => (hS.glo p).ext X, fun c y b h => ?_, fun c y c' y' b h h' => ?_⟩, ⟨ds, rds2, ?_⟩, ?_, ⟨by omega, fun b hb ho => ?_, q.fr.out, q.fr.os, q.fr.tape, Nat.le_succ_of_le q.fr.drn⟩, gr, q.heap.stb⟩
  · exact ra 0 _ rfl
  · exact (th 0 (by simp)).2
  · exact ra 1 _ rfl
  · exact (th 1 (by simp)).2
  · rcases h with h | h
    · rcases hr with hr | hr
      · exact hS.cls c y b h ⟨p, hr⟩
      · rcases gr _ b hr with h2 | h2
        · exact hS.cls c y b h ⟨p, h2⟩
        · have := lt b ⟨_, h⟩; omega
    · rcases hr with hr | hr
      · rcases gr _ b h with h2 | h2
        · exact hS.cls c y b h2 ⟨p, hr⟩
        · have := lt b ⟨_, hr⟩; omega
      · exact q.heap.sup.cls c y b h ⟨p, hr⟩
  · have fromS : St' (.kn c y) b → KnotAt E ((w'.drew.setCell ⟨B, 0, .none⟩ (.int .u32 1)).setCell ⟨B, 1, .none⟩ (.int .i32 0)) (fun g b => St g b ∨ St' g b) c y b := fun h =>
      (q.heap.sup.kn c y b h).ext X' (same2 b fun e => p2 (e ▸ ⟨_, h⟩))
    rcases h with h | h
    · by_cases hb : b = B
      · subst hb
        have e := hS.one _ _ _ _ b hx h
        cases e
        exact ⟨rfl, _, _, _, _, K2⟩
      · by_cases hs : ktSize y < ktSize (.node g v l r)
        · exact fromS (q.kn c y b ⟨h, hs⟩)
        · refine (hS.kn c y b h).ext X ?_
          rw [same2 b hb]
          refine same1 b (lt b ⟨_, h⟩) (fun e => a0 (e ▸ ⟨_, h⟩)) (fun e => a1 (e ▸ ⟨_, h⟩)) hb fun ⟨c', y', h'⟩ => ?_
          have e := hS.one _ _ _ _ b h h'.1
          cases e
          exact hs h'.2
    · exact fromS h
  · have key : ∀ {c : Nat} {y : KT (U c)} {c' : Nat} {y' : KT (U c')}, St (.kn c y) b → St' (.kn c' y') b → Ck.kn c y = Ck.kn c' y' := fun h h' => by
      rcases gr _ b h' with h2 | h2
      · exact hS.one _ _ _ _ b h h2
      · have := lt b ⟨_, h⟩; omega
    rcases h with h | h
    · rcases h' with h' | h'
      · exact hS.one _ _ _ _ b h h'
      · exact key h h'
    · rcases h' with h' | h'
      · exact (key h' h).symm
      · exact q.heap.sup.one _ _ _ _ b h h'
  · have := rangeAt_sub r2 3 ds.length
    simpa using this
  · have ho := q.heap.obj 0
    rw [i0] at ho
    obtain ⟨b', cs, e, rc0, ra0, -, -⟩ := ho
    obtain rfl : b0 = b' := by simpa [ptrTo] using e
    obtain ⟨u, B2, off, g1, g2, g3, rfl⟩ := RC.ptr_inv rc0
    rw [i2] at g1
    obtain rfl := Option.some.inj g1
    simp only [ptrTo, base, Option.some.injEq, Prod.mk.injEq] at g2
    obtain ⟨rfl, rfl⟩ := g2
    have := ra0 0 _ rfl
    simp only [World.cell?] at this ⊢
    rw [same2 b0 n0]
    exact this
  · have hnk : ¬ KnB St b := fun h => ho (.inr h)
    have e2 : b ≠ B := fun e => hnk ⟨_, _, e ▸ hx⟩
    rw [same2 b e2]
    exact same1 b hb (fun e => ho (.inl (.inl e))) (fun e => ho (.inl (.inr e))) e2 fun ⟨c, y, h⟩ => hnk ⟨c, y, h.1⟩
end
end Go.V

/- V: the tables of a seat, checked by the kernel. -/
set_option linter.unusedVariables false
set_option linter.unusedSimpArgs false
namespace Go.V
variable {U : Nat → Type}

/-- a value of zeros, cell by cell: what is left of the cells -/
def zcells (E : Env U) : (fuel : Nat) → List (A U) → List Value → Option (List Value)
  | 0, _, _ => .none
  | n + 1, l, cs => match l with
    | [] => some cs
    | .int k x :: l => match cs with
      | .int k' y :: cs => cond (decide (k = k') && decide (x = y)) (zcells E n l cs) .none
      | _ => .none
    | .bool x :: l => match cs with
      | .bool y :: cs => cond (x == y) (zcells E n l cs) .none
      | _ => .none
    | .str x :: l => match cs with
      | .string y :: cs => cond (decide (x = y)) (zcells E n l cs) .none
      | _ => .none
    | .nilp :: l => match cs with
      | .pointer .none :: cs => zcells E n l cs
      | _ => .none
    | .tr c .nil [] :: l => match cs with
      | .pointer .none :: cs => zcells E n l cs
      | _ => .none
    | .nilf :: l => match cs with
      | .nilFunc :: cs => zcells E n l cs
      | _ => .none
    | .nils c :: l => match cs with
      | .slice .none 0 0 :: cs => zcells E n l cs
      | _ => .none
    | .ro b c [] :: l => match cs with
      | .slice a 0 _ :: cs => zcells E n l cs
      | _ => .none
    | .agg m :: l => match zcells E n m cs with
      | some cs => zcells E n l cs
      | .none => .none
    | .arr c k xs :: l => cond (Nat.beq xs.length k) (match zcells E n (xs.map (E.enc c)) cs with
      | some cs => zcells E n l cs
      | .none => .none) .none
    | _ => .none

theorem zcells_ok {E : Env U} {w : World} {St : Ck U → Nat → Prop} {ι : Nat → Option Value} : ∀ (n : Nat) (l : List (A U)) (cs r : List Value), zcells E n l cs = some r → ∃ c1, cs = c1 ++ r ∧ RC E w St ι l c1 []
  | 0, l, cs, r, h => by simp [zcells] at h
  | n + 1, l, cs, r, h => by
    have ih := zcells_ok (E := E) (w := w) (St := St) (ι := ι) n
    have one : ∀ (a : A U) (l : List (A U)) (v : Value) (cs : List Value), (∀ {l cs}, RC E w St ι l cs [] → RC E w St ι (a :: l) (v :: cs) []) → zcells E n l cs = some r → ∃ c1, v :: cs = c1 ++ r ∧ RC E w St ι (a :: l) c1 [] := by
      intro a l v cs hc h
      obtain ⟨c1, rfl, h1⟩ := ih l cs r h
      exact ⟨v :: c1, rfl, hc h1⟩
    cases l with
    | nil => simp only [zcells, Option.some.injEq] at h; exact ⟨[], h, .nil⟩
    | cons a l =>
      cases a with
      | int k x =>
        simp only [zcells] at h
        split at h
        · rename_i k' y cs
          cases hb : (decide (k = k') && decide (x = y)) with
          | false => rw [hb] at h; simp at h
          | true =>
            rw [hb] at h
            simp only [Bool.and_eq_true, decide_eq_true_eq] at hb
            obtain ⟨rfl, rfl⟩ := hb
            exact one _ _ _ _ .int h
        · simp at h
      | bool x =>
        simp only [zcells] at h
        split at h
        · rename_i y cs
          cases hb : (x == y) with
          | false => rw [hb] at h; simp at h
          | true => rw [hb] at h; rw [← eq_of_beq hb]; exact one _ _ _ _ .bool h
        · simp at h
      | str x =>
        simp only [zcells] at h
        split at h
        · rename_i y cs
          cases hb : (decide (x = y)) with
          | false => rw [hb] at h; simp at h
          | true => rw [hb] at h; rw [← of_decide_eq_true hb]; exact one _ _ _ _ .str h
        · simp at h
      | nilp => simp only [zcells] at h; split at h; exact one _ _ _ _ .nilp h; simp at h
      | tr c z p =>
        cases z with
        | node _ _ _ _ => simp [zcells] at h
        | nil =>
          cases p with
          | cons _ _ => simp [zcells] at h
          | nil =>
            simp only [zcells] at h
            split at h
            · exact one _ _ _ _ (fun h => .tr (.inl ⟨rfl, rfl, rfl⟩) h) h
            · simp at h
      | nilf => simp only [zcells] at h; split at h; exact one _ _ _ _ .nilf h; simp at h
      | nils c => simp only [zcells] at h; split at h; exact one _ _ _ _ .nils h; simp at h
      | ro b c xs =>
        cases xs with
        | nil => simp only [zcells] at h; split at h; exact one _ _ _ _ .roE h; simp at h
        | cons _ _ => simp [zcells] at h
      | agg m =>
        simp only [zcells] at h
        cases hm : zcells E n m cs with
        | none => rw [hm] at h; simp at h
        | some cs' =>
          rw [hm] at h
          obtain ⟨c1, rfl, h1⟩ := ih m cs cs' hm
          obtain ⟨c2, rfl, h2⟩ := ih l cs' r h
          exact ⟨c1 ++ c2, by simp, by simpa using RC.agg h1 h2⟩
      | arr c k xs =>
        simp only [zcells] at h
        cases hb : Nat.beq xs.length k with
        | false => rw [hb] at h; simp at h
        | true =>
          rw [hb] at h
          simp only [cond_true] at h
          cases hm : zcells E n (xs.map (E.enc c)) cs with
          | none => rw [hm] at h; simp at h
          | some cs' =>
            rw [hm] at h
            obtain ⟨c1, rfl, h1⟩ := ih _ cs cs' hm
            obtain ⟨c2, rfl, h2⟩ := ih l cs' r h
            exact ⟨c1 ++ c2, by simp, by simpa using RC.arr (Nat.eq_of_beq_eq_true hb) h1 h2⟩
      | _ => simp [zcells] at h

def fieldsB : List Field → List (TypeId × Nat) → Bool
  | [], [] => true
  | f :: l, x :: m => Nat.beq f.type x.1 && (Nat.beq f.offset x.2 && fieldsB l m)
  | _, _ => false
theorem fieldsB_eq : ∀ {l : List Field} {m : List (TypeId × Nat)}, fieldsB l m = true → m = l.map fun f => (f.type, f.offset)
  | [], [], _ => rfl
  | [], _ :: _, h => by simp [fieldsB] at h
  | _ :: _, [], h => by simp [fieldsB] at h
  | f :: l, x :: m, h => by
    simp only [fieldsB, Bool.and_eq_true] at h
    rw [fieldsB_eq h.2.2, List.map_cons, Nat.eq_of_beq_eq_true h.1, Nat.eq_of_beq_eq_true h.2.1]
def tyB (P : Program) (t : TypeId) : Ty → Bool
  | .no => false
  | .int k => match P.underlying t with | some (.int k') => decide (k' = k) | _ => false
  | .bool => match P.underlying t with | some .bool => true | _ => false
  | .str => match P.underlying t with | some .string => true | _ => false
  | .ptr e => match P.underlying t with | some (.pointer e') => Nat.beq e' e | _ => false
  | .func => true
  | .sl e => match P.underlying t with | some (.slice e') => Nat.beq e' e | _ => false
  | .arr n e => match P.underlying t with | some (.array n' e') => Nat.beq n' n && Nat.beq e' e | _ => false
  | .st fs => match P.underlying t with | some (.struct fields) => fieldsB fields.toList fs | _ => false
theorem tyB_ok {P : Program} {t : TypeId} {y : Ty} (h : tyB P t y = true) : tyOk P t y := by
  cases y <;> simp only [tyB] at h <;> first | (simp at h; done) | skip
  case int k => split at h; rename_i k' e; simp only [decide_eq_true_eq] at h; subst h; exact e; simp at h
  case bool => split at h; assumption; simp at h
  case str => split at h; assumption; simp at h
  case ptr e => split at h; rename_i e' he; rw [Nat.eq_of_beq_eq_true h] at he; exact he; simp at h
  case func => trivial
  case sl e => split at h; rename_i e' he; rw [Nat.eq_of_beq_eq_true h] at he; exact he; simp at h
  case arr n e => split at h; rename_i n' e' he; simp only [Bool.and_eq_true] at h; rw [Nat.eq_of_beq_eq_true h.1, Nat.eq_of_beq_eq_true h.2] at he; exact he; simp at h
  case st fs => split at h; rename_i fields he; exact ⟨fields, he, fieldsB_eq h⟩; simp at h

def zeroB (E : Env U) (z : Value) (a : A U) : Bool := match zcells E 1000 [a] z.cells.toList with
  | some [] => isAggV z == isAgg a
  | _ => false
theorem zeroB_ok {E : Env U} {w : World} {St : Ck U → Nat → Prop} {ι : Nat → Option Value} {z : Value} {a : A U} (h : zeroB E z a = true) : RV E w St ι a z := by
  unfold zeroB at h
  split at h
  · rename_i hz
    obtain ⟨c1, e, h1⟩ := zcells_ok (w := w) (St := St) (ι := ι) _ _ _ _ hz
    rw [List.append_nil] at e
    subst e
    exact ⟨h1, eq_of_beq h⟩
  · simp at h

def rowB (E : Env U) (r : Row) : Bool := tyB E.P r.t r.ty &&
  (match E.P.info? r.t with
    | some i => (Nat.beq i.size r.sz && Nat.beq i.bytes r.by') && (match i.zero with
      | some z => (cond (known (zero E r.t)) (zeroB E z (zero E r.t)) true) && (zeroB E z (E.enc r.t (E.dflt r.t)) && Nat.beq z.cells.size r.sz)
      | .none => false)
    | .none => false) &&
  (match E.P.underlying r.t with | some d => d.isRow == rowTy r.ty | .none => false)
def rowsB (E : Env U) : List Row → Bool
  | [] => true
  | r :: l => rowB E r && rowsB E l

theorem rowOf_mem {t : TypeId} : ∀ {l : List Row} {r : Row}, rowOf t l = some r → r ∈ l ∧ r.t = t
  | [], r, h => by simp [rowOf] at h
  | x :: l, r, h => by
    simp only [rowOf] at h
    cases hb : Nat.beq x.t t with
    | true => rw [hb] at h; simp only [cond_true, Option.some.injEq] at h; subst h; exact ⟨by simp, Nat.eq_of_beq_eq_true hb⟩
    | false => rw [hb] at h; obtain ⟨h1, h2⟩ := rowOf_mem (l := l) h; exact ⟨by simp [h1], h2⟩
theorem rowsB_mem {E : Env U} : ∀ {l : List Row}, rowsB E l = true → ∀ r ∈ l, rowB E r = true
  | [], h, r, hr => by cases hr
  | x :: l, h, r, hr => by
    simp only [rowsB, Bool.and_eq_true] at h
    rcases List.mem_cons.1 hr with rfl | hr
    · exact h.1
    · exact rowsB_mem h.2 r hr

/-- two plain values of a type are compared as the table says -/
def PlainOk (E : Env U) (c : Nat) : Prop := (∀ l m : List (U c), E.eqb c l m = true ↔ l = m) ∧ ∀ x y : U c, ∃ r, eqV E 1 c (E.enc c x) (E.enc c y) = some r ∧ (r = true ↔ x = y)
abbrev decI (x y : Int) : Bool := decide (x = y)
abbrev decB (x y : Bool) : Bool := x == y
abbrev eqLI (x y : List Int) : Bool := decide (x = y)
abbrev eqLB (x y : List Bool) : Bool := decide (x = y)
abbrev eqLS (x y : List ByteArray) : Bool := decide (x = y)
theorem decI_iff (x y : Int) : decI x y = true ↔ x = y := decide_eq_true_iff
theorem decB_iff (x y : Bool) : decB x y = true ↔ x = y := beq_iff_eq
theorem eqLI_iff (x y : List Int) : eqLI x y = true ↔ x = y := decide_eq_true_iff
theorem eqLB_iff (x y : List Bool) : eqLB x y = true ↔ x = y := decide_eq_true_iff
theorem eqLS_iff (x y : List ByteArray) : eqLS x y = true ↔ x = y := decide_eq_true_iff
theorem seq_iff {x y : ByteArray} : seq x y = true ↔ x = y := decide_eq_true_iff
theorem eqA_of {E : Env U} (h : ∀ r ∈ E.tys, plainTy r.ty = true → PlainOk E r.t) : ∀ c, plainTy (E.ty c) = true → PlainOk E c := by
  intro c hc
  unfold Env.ty at hc
  cases hr' : rowOf c E.tys with
  | none => rw [hr'] at hc; simp [plainTy] at hc
  | some r =>
    rw [hr'] at hc
    obtain ⟨h1, h2⟩ := rowOf_mem hr'
    rw [← h2]
    exact h r h1 hc
structure EnvX (E : Env U) : Prop where
  glob : ∀ g, loan (E.glob g) = false ∧ noTupG (E.glob g) = true
  eqA : ∀ c, plainTy (E.ty c) = true → PlainOk E c
  eqT : eqsOk E.P E.eqs = true
  toB : ∀ c l t, E.toBytes c l = some t → E.ty c = .int .u8 ∧ ∃ ns : List Int, l.map (E.enc c) = ns.map (.int .u8) ∧ t = bytesOf ns
  ofB : ∀ c t l, E.ofBytes c t = some l → E.ty c = .int .u8 ∧ l.map (E.enc c) = (bytesTo t).map (.int .u8)
theorem envOk_of (E : Env U) (hb : EnvOk E) (hr : rowsB E E.tys = true) (hm : E.P.follows .mixedOrders = true) (hx : EnvX E) : EnvOk2 E := by
  have row : ∀ t, E.ty t ≠ .no → ∃ r, E.ty t = r.ty ∧ E.sz t = r.sz ∧ E.by' t = r.by' ∧ r.t = t ∧ rowB E r = true := by
    intro t h
    unfold Env.ty at h
    cases hr' : rowOf t E.tys with
    | none => rw [hr'] at h; exact absurd rfl h
    | some r =>
      obtain ⟨h1, h2⟩ := rowOf_mem hr'
      exact ⟨r, by unfold Env.ty; rw [hr'], by unfold Env.sz; rw [hr'], by unfold Env.by'; rw [hr'], h2, rowsB_mem hr r h1⟩
  have all : ∀ t, E.ty t ≠ .no → tyOk E.P t (E.ty t) ∧ (∃ i z, E.P.info? t = some i ∧ i.size = E.sz t ∧ i.bytes = E.by' t ∧ i.zero = some z ∧ (known (zero E t) = true → zeroB E z (zero E t) = true) ∧ zeroB E z (E.enc t (E.dflt t)) = true ∧ z.cells.size = E.sz t) ∧
      (∃ d, E.P.underlying t = some d ∧ d.isRow = rowTy (E.ty t)) := by
    intro t h
    obtain ⟨r, h1, h2, h3, rfl, h4⟩ := row t h
    unfold rowB at h4
    simp only [Bool.and_eq_true] at h4
    obtain ⟨⟨q1, q2⟩, q3⟩ := h4
    rw [h1, h2, h3]
    refine ⟨tyB_ok q1, ?_, ?_⟩
    · cases hi : E.P.info? r.t with
      | none => rw [hi] at q2; simp at q2
      | some i =>
        rw [hi] at q2
        simp only [Bool.and_eq_true] at q2
        cases hz : i.zero with
        | none => rw [hz] at q2; simp at q2
        | some z =>
          rw [hz] at q2
          simp only [Bool.and_eq_true] at q2
          refine ⟨i, z, rfl, Nat.eq_of_beq_eq_true q2.1.1, Nat.eq_of_beq_eq_true q2.1.2, hz, fun hk => ?_, q2.2.2.1, Nat.eq_of_beq_eq_true q2.2.2.2⟩
          have := q2.2.1
          rw [hk] at this
          exact this
    · cases hd : E.P.underlying r.t with
      | none => rw [hd] at q3; simp at q3
      | some d => rw [hd] at q3; exact ⟨d, rfl, eq_of_beq q3⟩
  have no : ∀ t, E.ty t = .no → zero E t = .none := fun t h => by unfold zero zeroA; rw [h]
  refine { toEnvOk := hb, under := fun t => ?_, info := fun t h => ?_, agg := fun t h => (all t h).2.2, zer := fun t h => ?_, dfl := fun c h => ?_, mixed := hm, glob := hx.glob, eqA := hx.eqA, eqT := hx.eqT, toB := hx.toB, ofB := hx.ofB }
  · by_cases h : E.ty t = .no
    · rw [h]; trivial
    · exact (all t h).1
  · obtain ⟨i, z, h1, h2, h3, -⟩ := (all t h).2.1
    exact ⟨i, h1, h2, h3⟩
  · by_cases hn : E.ty t = .no
    · rw [no t hn] at h; simp [known] at h
    · obtain ⟨i, z, h1, h2, h3, h4, h5, -⟩ := (all t hn).2.1
      exact ⟨i, z, h1, h4, fun w St ι => zeroB_ok (h5 h)⟩
  · obtain ⟨i, z, h1, h2, h3, h4, h5, h6, h7⟩ := (all c h).2.1
    exact ⟨i, z, h1, h4, h7, fun w St ι => (zeroB_ok h6).1⟩
end Go.V

/- V: what a seat's tables are made of. -/
set_option linter.unusedVariables false
namespace Go.V
variable {U : Nat → Type}

def dInt (k : IntKind) : A U → Option Int
  | .int k' n => if k' = k then some n else .none
  | _ => .none
def dBool : A U → Option Bool
  | .bool b => some b
  | _ => .none
def dStr : A U → Option ByteArray
  | .str b => some b
  | _ => .none
def dNilp : A U → Option Unit
  | .nilp => some ()
  | _ => .none
def dNilf : A U → Option Unit
  | .nilf => some ()
  | _ => .none
def dRo (c : Nat) : A U → Option (List (U c))
  | .ro false c' l => if h : c' = c then some (h ▸ l) else .none
  | _ => .none
def dArr (c n : Nat) : A U → Option (List (U c))
  | .arr c' n' l => if h : c' = c then (if n' = n then some (h ▸ l) else .none) else .none
  | _ => .none
def dAgg : A U → Option (List (A U))
  | .agg l => some l
  | _ => .none
def dCons : List (A U) → Option (A U × List (A U))
  | a :: l => some (a, l)
  | _ => .none
def dEnd : List (A U) → Option Unit
  | [] => some ()
  | _ => .none

theorem dInt_ok {k : IntKind} {a : A U} {x : Int} (h : dInt k a = some x) : a = .int k x := by
  cases a <;> simp [dInt] at h
  obtain ⟨rfl, rfl⟩ := h; rfl
theorem dBool_ok {a : A U} {x : Bool} (h : dBool a = some x) : a = .bool x := by cases a <;> simp [dBool] at h; subst h; rfl
theorem dStr_ok {a : A U} {x : ByteArray} (h : dStr a = some x) : a = .str x := by cases a <;> simp [dStr] at h; subst h; rfl
theorem dNilp_ok {a : A U} {x : Unit} (h : dNilp a = some x) : a = .nilp := by cases a <;> simp [dNilp] at h; rfl
theorem dNilf_ok {a : A U} {x : Unit} (h : dNilf a = some x) : a = .nilf := by cases a <;> simp [dNilf] at h; rfl
theorem dRo_ok {c : Nat} {a : A U} {x : List (U c)} (h : dRo c a = some x) : a = .ro false c x := by
  cases a <;> try (simp [dRo] at h; done)
  rename_i b c' l
  cases b
  · simp only [dRo] at h
    split at h
    · rename_i e; subst e; simp at h; subst h; rfl
    · cases h
  · simp [dRo] at h
theorem dArr_ok {c n : Nat} {a : A U} {x : List (U c)} (h : dArr c n a = some x) : a = .arr c n x := by
  cases a <;> try (simp [dArr] at h; done)
  rename_i c' n' l
  simp only [dArr] at h
  split at h
  · rename_i e; subst e
    split at h
    · rename_i e; subst e; simp at h; subst h; rfl
    · cases h
  · cases h
theorem dAgg_ok {a : A U} {x : List (A U)} (h : dAgg a = some x) : a = .agg x := by cases a <;> simp [dAgg] at h; subst h; rfl
theorem dCons_ok {a : List (A U)} {x : A U × List (A U)} (h : dCons a = some x) : a = x.1 :: x.2 := by cases a <;> simp [dCons] at h; subst h; rfl
theorem dEnd_ok {a : List (A U)} {x : Unit} (h : dEnd a = some x) : a = [] := by cases a <;> simp [dEnd] at h; rfl

theorem rowOf_none {c : Nat} : ∀ {l : List Row}, (∀ r ∈ l, r.t ≠ c) → rowOf c l = .none
  | [], _ => rfl
  | r :: l, h => by
    have h1 : Nat.beq r.t c = false := by
      cases hb : Nat.beq r.t c with
      | false => rfl
      | true => exact absurd (Nat.eq_of_beq_eq_true hb) (h r (by simp))
    simp only [rowOf, h1, cond_false]
    exact rowOf_none fun x hx => h x (by simp [hx])

def lookT (f : Nat) : List (Nat × Fn U) → Fn U
  | [] => fun _ _ _ => False
  | (g, F) :: l => cond (Nat.beq f g) F (lookT f l)
def lookC (f id : Nat) : List (Nat × Nat × (Nat → List (A U) → List (AObj U) → (A U → List (AObj U) → Prop) → Prop)) → Nat → List (A U) → List (AObj U) → (A U → List (AObj U) → Prop) → Prop
  | [] => fun _ _ _ _ => False
  | (g, i, F) :: l => cond (Nat.beq f g && Nat.beq id i) F (lookC f id l)
theorem lookT_in {f : Nat} {args : List (A U)} {bs : List (AObj U)} {K} : ∀ {l : List (Nat × Fn U)}, lookT f l args bs K → ∃ F, (f, F) ∈ l ∧ F args bs K
  | [], h => h.elim
  | (g, F) :: l, h => by
    simp only [lookT] at h
    cases hb : Nat.beq f g with
    | true => rw [hb] at h; rw [Nat.eq_of_beq_eq_true hb]; exact ⟨F, by simp, h⟩
    | false => rw [hb] at h; obtain ⟨F', h1, h2⟩ := lookT_in (l := l) h; exact ⟨F', by simp [h1], h2⟩
theorem lookC_in {f id nb : Nat} {vals objs K} : ∀ {l : List (Nat × Nat × (Nat → List (A U) → List (AObj U) → (A U → List (AObj U) → Prop) → Prop))}, lookC f id l nb vals objs K → ∃ F, (f, id, F) ∈ l ∧ F nb vals objs K
  | [], h => h.elim
  | (g, i, F) :: l, h => by
    simp only [lookC] at h
    cases hb : (Nat.beq f g && Nat.beq id i) with
    | true =>
      rw [hb] at h
      simp only [Bool.and_eq_true] at hb
      rw [Nat.eq_of_beq_eq_true hb.1, Nat.eq_of_beq_eq_true hb.2]; exact ⟨F, by simp, h⟩
    | false => rw [hb] at h; obtain ⟨F', h1, h2⟩ := lookC_in (l := l) h; exact ⟨F', by simp [h1], h2⟩

/-- numbers, rising -/
def sortI (l : List Int) : List Int := l.mergeSort fun x y => decide (x ≤ y)

structure Hold (p : Prop) : Prop where
  out : p
theorem Hold.mp {p q : Prop} (e : p = q) (h : p) : Hold q := ⟨e ▸ h⟩

/-- what is shown of a row: it is V's reading of a function, or of a round; or it is shown by hand -/
inductive RowOk (E : Env U) (T : Tab U) (C : Cut U) (f : Nat) (args : List (A U)) (objs : List (AObj U)) (K : A U → List (AObj U) → Prop) : Prop where
  | fn : fnOk E.P f = true → Nat.blt f 1000000 = true → Hold (vfunc E T C f args objs K) → RowOk E T C f args objs K
  | round (g id : Nat) : f = ykey g id → fnOk E.P g = true → Nat.blt id 1000000 = true → Hold (vround E T C g id args objs K) → RowOk E T C f args objs K
  | row : (TSound E T → RowSound E f args objs K) → RowOk E T C f args objs K

/-- tables that are given by their rows -/
theorem tablesL {E : Env U} (ok : EnvOk2 E) (hm : E.P.follows .mixedOrders = true) (R : Nat → List (Nat × Fn U)) (Q : Nat → List (Nat × Nat × (Nat → List (A U) → List (AObj U) → (A U → List (AObj U) → Prop) → Prop)))
    (hR0 : ∀ r ∈ R 0, ∀ args objs K, ¬ r.2 args objs K) (hQ0 : ∀ r ∈ Q 0, ∀ nb vals objs K, ¬ r.2.2 nb vals objs K)
    (hR : ∀ k, ∀ r ∈ R (k + 1), ∀ args objs K, r.2 args objs K → RowOk E (fun f => lookT f (R k)) (fun f id => lookC f id (Q k)) r.1 args objs K)
    (hQ : ∀ k, ∀ r ∈ Q (k + 1), ∀ live, cutOf r.1 r.2.1 E.cuts = some live → ∀ nb vals objs K, r.2.2 nb vals objs K → fnOk E.P r.1 = true ∧ Hold (vcut E (fun f => lookT f (R k)) (fun f id => lookC f id (Q k)) r.1 r.2.1 live nb vals objs K)) (k : Nat) :
    TSound E (fun f => lookT f (R k)) ∧ CSound E (fun f id => lookC f id (Q k)) := by
  refine tables (T := fun k f => lookT f (R k)) (C := fun k f id => lookC f id (Q k)) ok hm ?_ ?_ ?_ ?_ k
  · intro f args objs K h
    obtain ⟨F, h1, h2⟩ := lookT_in h
    exact hR0 _ h1 args objs K h2
  · intro f id nb vals objs K h
    obtain ⟨F, h1, h2⟩ := lookC_in h
    exact hQ0 _ h1 nb vals objs K h2
  · intro k f args objs K h
    obtain ⟨F, h1, h2⟩ := lookT_in h
    cases hR k _ h1 args objs K h2 with
    | fn q1 q2 q3 => exact .inl ⟨q1, q2, q3.out⟩
    | round g id q0 q1 q2 q3 => exact .inr (.inl ⟨g, id, q0, q1, q2, q3.out⟩)
    | row q => exact .inr (.inr q)
  · intro k f id live nb vals objs K hl h
    obtain ⟨F, h1, h2⟩ := lookC_in h
    obtain ⟨q1, q2⟩ := hQ k _ h1 live hl nb vals objs K h2
    exact ⟨q1, q2.out⟩
end Go.V
