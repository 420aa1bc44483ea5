/- V: a round of a loop over a function, from where it is yielded. -/
import Derived.Test.YtnpdhpbhkdejoaaDoorVCall3
import Derived.RangeFuncRecord
set_option linter.unusedVariables false
set_option linter.unusedSimpArgs false
namespace Go.V
variable {U : Nat → Type}
section
variable {E : Env U} {w : World} {St : Bool → Nat → Prop} {ι : Nat → Option Value} {s : S U} {N : Nat} {a : Act} {b : Nat} {o : Oper} {ro : Option Nat}

theorem fold_get : ∀ (ps : List Nat) (vs : List Value) (tm : Array Value), ps.Nodup → (∀ p ∈ ps, p < tm.size) → ps.length = vs.length →
    ((ps.zip vs).foldl (fun (t : Array Value) (x : Nat × Value) => t.setIfInBounds x.1 x.2) tm).size = tm.size ∧
    (ps.map fun d => ((ps.zip vs).foldl (fun (t : Array Value) (x : Nat × Value) => t.setIfInBounds x.1 x.2) tm).getD d undef) = vs ∧
    ∀ d, d ∉ ps → ((ps.zip vs).foldl (fun (t : Array Value) (x : Nat × Value) => t.setIfInBounds x.1 x.2) tm).getD d undef = tm.getD d undef
  | [], [], tm, _, _, _ => ⟨rfl, rfl, fun _ _ => rfl⟩
  | [], _ :: _, tm, _, _, h => by simp at h
  | _ :: _, [], tm, _, _, h => by simp at h
  | p :: ps, v :: vs, tm, hn, hl, h => by
    simp only [List.nodup_cons] at hn
    obtain ⟨h1, h2, h3⟩ := fold_get ps vs (tm.setIfInBounds p v) hn.2 (fun q hq => by simpa using hl q (by simp [hq])) (by simpa using h)
    simp only [List.zip_cons_cons, List.foldl_cons]
    refine ⟨by rw [h1]; simp, ?_, fun d hd => ?_⟩
    · simp only [List.map_cons, h2, List.cons.injEq, and_true]
      rw [h3 p hn.1, getD_put, if_pos ⟨rfl, hl p (by simp)⟩]
    · simp only [List.mem_cons, not_or] at hd
      rw [h3 d hd.2, getD_put, if_neg fun x => hd.1 x.1.symm]

theorem yield_plan {n f id : Nat} {vals args : List (A U)} {look : List Nat} (hp : plan E b o s = .yield n f id vals args look) : ∃ c g, o.op = .call c ∧ c.callee = .value g ∧ s.ev E 0 g = .yld n ∧ (∃ live, s.h n = .lp f id live vals 0) ∧
    args = evArgs E s c.args.toList c.argTypes.toList ∧ ∃ x, layG s.h b [] (args ++ vals) = some x ∧ look = n :: (x.L1 ++ x.L) := by
  have nolen : ∀ t x, lenV E s t x ≠ .yield n f id vals args look := by
    intro t x h; revert h; unfold lenV; intro h; (repeat' split at h) <;> cases h
  have noapp : ∀ t u x y, appendV E s b t u x y ≠ .yield n f id vals args look := by
    intro t u x y h; revert h; unfold appendV; simp only [Bool.cond_eq_ite]; intro h; (repeat' split at h) <;> cases h
  have nocall : ∀ c, callV E s b c = .yield n f id vals args look → ∃ g, c.callee = .value g ∧ s.ev E 0 g = .yld n ∧ (∃ live, s.h n = .lp f id live vals 0) ∧
      args = evArgs E s c.args.toList c.argTypes.toList ∧ ∃ x, layG s.h b [] (args ++ vals) = some x ∧ look = n :: (x.L1 ++ x.L) := by
    intro c h
    unfold callV at h
    simp only [] at h
    cases hc : c.callee with
    | value g =>
      rw [hc] at h
      simp only [] at h
      cases hg : s.ev E 0 g with
      | clo f' caps =>
        rw [hg] at h
        simp only [] at h
        cases hpr : memN f' E.procs with
        | false => rw [hpr] at h; cases h
        | true =>
          rw [hpr] at h
          simp only [Bool.cond_eq_ite, if_true] at h
          (repeat' split at h) <;> cases h
      | yld m =>
        rw [hg] at h
        simp only [] at h
        cases hm : s.h m with
        | lp lf lid live vs j =>
          rw [hm] at h
          cases j with
          | succ j => cases h
          | zero =>
            simp only [] at h
            cases hx : layG s.h b [] (evArgs E s c.args.toList c.argTypes.toList ++ vs) with
            | none => rw [hx] at h; cases h
            | some x => rw [hx] at h; cases h; exact ⟨g, rfl, hg, ⟨live, hm⟩, rfl, x, hx, rfl⟩
        | _ => rw [hm] at h; cases h
      | _ => rw [hg] at h; cases h
    | invoke r m => rw [hc] at h; simp at h
    | builtin q =>
      rw [hc] at h
      cases q with
      | copy => exfalso; simp only [] at h; revert h; unfold copyV; simp only [Bool.cond_eq_ite]; intro h; (repeat' split at h) <;> cases h
      | max => exfalso; simp only [] at h; revert h; intro h; (repeat' split at h) <;> cases h
      | min => exfalso; simp only [] at h; revert h; intro h; (repeat' split at h) <;> cases h
      | len => simp only [] at h; split at h; exact absurd h (nolen _ _); cases h
      | append => simp only [] at h; split at h; exact absurd h (noapp _ _ _ _); cases h
      | _ => simp at h
  cases ho : o.op with
  | call c =>
    simp only [plan, ho] at hp
    obtain ⟨g, h⟩ := nocall c hp
    exact ⟨c, g, rfl, h⟩
  | unOp op t x => exfalso; revert hp; cases op <;> (simp only [plan, ho]; intro hp; (repeat' split at hp) <;> cases hp)
  | makeFunc fn first caps => exfalso; revert hp; cases fn <;> (simp only [plan, ho]; (try simp only [Bool.cond_eq_ite]); intro hp; (repeat' split at hp) <;> cases hp)
  | binOp op t x y ty => exfalso; revert hp; simp only [plan, ho, nilV, Bool.cond_eq_ite]; intro hp; (repeat' split at hp) <;> first | exact eqP_yield hp | cases hp
  | slice t x lo hi mx => exfalso; revert hp; simp only [plan, ho, sliceV, Bool.cond_eq_ite]; intro hp; (repeat' split at hp) <;> cases hp
  | convert t d x => exfalso; revert hp; simp only [plan, ho]; unfold convV; simp only [Bool.cond_eq_ite]; intro hp; (repeat' split at hp) <;> cases hp
  | _ => exfalso; revert hp; simp only [plan, ho]; (try simp only [Bool.cond_eq_ite]); intro hp; (repeat' split at hp) <;> cases hp

theorem yield_exec {c : Call} {g : Operand} (hc : c.callee = .value g) (ho : o.op = .call c) {l : Nat} (hv : a.eval g = .func (.yield l) #[] #[]) {L : Loop} (hl : w.heap[l]? = some (.loop L)) (hs : (c.args.map a.eval).size = L.params.size) :
    (execOp a.eval o).run E.P w = .ok (.round l L.fn ((L.params.zip (c.args.map a.eval)).foldl (fun tmps (t, x) => tmps.setIfInBounds t x) L.tmps) L.assign L.body) w := by
  simp only [execOp, ho, resolve, hc, hv, Deferred.ofValue, Sem.run_bind, Sem.run_pure, Result.andThen_ok, invoke, Array.empty_append]
  exact run_yield hl hs

theorem RVs.length {l : List (A U)} {vs : List Value} (h : RVs E w St ι l vs) : l.length = vs.length := by
  induction l generalizing vs with
  | nil => cases vs with | nil => rfl | cons _ _ => exact h.elim
  | cons a l ih => cases vs with | nil => exact h.elim | cons v vs => simp [ih h.2]

theorem upds_at {α : Type} {h h' : Nat → α} {m : Nat} : ∀ {l : List (Nat × α)}, h m = h' m → upds h l m = upds h' l m := by
  intro l
  induction l generalizing h h' with
  | nil => intro e; exact e
  | cons x l ih =>
    intro e
    refine ih ?_
    by_cases hx : m = x.1
    · subst hx; simp only [upd_same]
    · rw [upd_ne _ _ hx, upd_ne _ _ hx]; exact e

theorem LoopIs.endL {f id : Nat} {live : List Nat} {L : Loop} (h : LoopIs E f id live L) (j : Nat) : LoopIs E f id live (endL L j) := h

theorem yield_step (ok : EnvOk2 E) {T : Tab U} (TS : TSound E T) (R : Rel E s N a.tmps w ι St) (hf : ∀ m, b ≤ m → m < b + 100 → ι m = none) (hd : ∀ d, o.dst = some d → d < N) {n f lk : Nat} {vals args : List (A U)} {look : List Nat} (hp : plan E b o s = .yield n f lk vals args look)
    {sV : S U} (hg : ∀ m ∈ look, sV.h m = s.h m) {K : S U → Prop} (hc : yieldK T b sV o.dst n f lk vals args K)
    {next : Act → World → Prop} {Q : Exit → Act → World → Prop} (h : ∀ wr v u w' ι' St', K (sV.put wr o.dst v) → (∀ x ∈ wr, x.1 ∈ look ∨ (b ≤ x.1 ∧ x.1 < b + 100)) → Stp E s N w ι St b o.dst wr v (a.put o.dst u).tmps w' ι' St' → next (a.put o.dst u) w') :
    o.wpIn (FR ro) 0 E.P a w next Q := by
  obtain ⟨c, g, ho, hcal, hev, ⟨live, hn⟩, hA, x, hx, hlk⟩ := yield_plan hp
  have hlp := R.obj n
  rw [hn] at hlp
  obtain ⟨l, L, hι, hheap, hLI, hvals, hJ⟩ := hlp
  have hev' := ev_ok ok R 0 g
  rw [hev] at hev'
  have hgv : a.eval g = .func (.yield l) #[] #[] := by
    have h1 : RC E w St ι [.yld n] (a.eval g).cells.toList [] := hev'.1
    have h2 : isAggV (a.eval g) = false := hev'.2
    generalize hu : (a.eval g).cells.toList = us at h1
    cases h1 with
    | yld e1 e2 =>
      cases e2
      rw [hι] at e1
      obtain rfl : l = _ := by injection e1 with e1; injection e1 with e1; injection e1
      cases hv : a.eval g with
      | agg cs => rw [hv] at h2; simp [isAggV] at h2
      | _ => rw [hv] at hu; simp [Value.cells] at hu; try simp [hu]
  unfold yieldK at hc
  rw [layG_congr hx (fun m hm => hg m (by rw [hlk]; exact List.mem_cons_of_mem _ hm)), hg n (by rw [hlk]; simp), hn] at hc
  simp only [] at hc
  cases hk0 : (args.all known && Nat.blt lk 1000000) with
  | false => rw [hk0] at hc; exact hc.elim
  | true =>
  rw [hk0] at hc
  simp only [cond_true] at hc
  obtain ⟨hk, hlk1⟩ := (Bool.and_eq_true _ _).mp hk0
  cases hb : ((!memN n x.L1 && !memN n x.L) && (Nat.ble x.n (b + 100) && x.L.all fun m => Nat.blt m x.n || Nat.ble (b + 100) m)) with
  | false => rw [hb] at hc; exact hc.elim
  | true =>
  rw [hb] at hc
  simp only [cond_true] at hc
  simp only [Bool.and_eq_true, Nat.ble_eq, List.all_eq_true, Bool.or_eq_true, Nat.blt_eq, Bool.not_eq_true', memN_false] at hb
  obtain ⟨⟨nL1, nL⟩, hxn, hL⟩ := hb
  obtain ⟨hfit, hrs⟩ := (TS (ykey f lk) _ _ _ hc).2 f lk hlk1 rfl
  -- the record is put aside
  have R' := R.kill n
  have hB : blkO (ι n) = some l := by rw [hι]; rfl
  have hlive : isLive (s.h n) = true := by rw [hn]; rfl
  have hx' : layG (upd s.h n .dead) b [] (args ++ vals) = some x := layG_congr hx fun m hm => upd_ne _ _ fun e => by
    subst e
    rcases List.mem_append.1 hm with h | h
    · exact nL1 h
    · exact nL h
  have hav : RVs E w St ι args (c.args.map a.eval).toList := by
    rw [hA] at hk ⊢
    simpa using args_known ok R c.args.toList c.argTypes.toList hk
  have hus := RVs.append hav hvals
  obtain ⟨ι2, LO⟩ := layG_ok ok R' hx' hus.holds' hus.noTup (fun m h5 h6 => hf m h5 (Nat.lt_of_lt_of_le h6 hxn))
  have hvs := LO.vals.rvs (layG_noTup hx' hus.noTup)
  obtain ⟨f1, f2, f3⟩ := hfit live L hLI
  have hsz : (c.args.map a.eval).size = L.params.size := by
    have h1 := hvs.length
    rw [f1, List.length_append, List.length_map] at h1
    simp only [Array.length_toList] at h1
    omega
  have hexec := yield_exec (E := E) (o := o) hcal ho hgv hheap hsz
  have hfold : (L.params.zip (c.args.map a.eval)).foldl (fun tmps (t, x) => tmps.setIfInBounds t x) L.tmps = (L.params.toList.zip (c.args.map a.eval).toList).foldl (fun (t : Array Value) (x : Nat × Value) => t.setIfInBounds x.1 x.2) L.tmps := by
    rw [← Array.toList_zip, Array.foldl_toList]
  obtain ⟨g1, g2, g3⟩ := fold_get L.params.toList (c.args.map a.eval).toList L.tmps (List.nodup_append.1 f2).1 f3 (by simpa using hsz.symm)
  rw [hfold] at hexec
  generalize (L.params.toList.zip (c.args.map a.eval).toList).foldl (fun (t : Array Value) (x : Nat × Value) => t.setIfInBounds x.1 x.2) L.tmps = tm at hexec g1 g2 g3
  have htm : (L.params.toList ++ live).map (fun d => tm.getD d undef) = (c.args.map a.eval).toList ++ live.map fun d => L.tmps.getD d undef := by
    rw [List.map_append, g2]
    congr 1
    refine List.map_congr_left fun d hd => g3 d fun hm => ?_
    exact (List.nodup_append.1 f2).2.2 d hm d hd rfl
  have noown : ¬ Own { s with h := upd s.h n .dead } ι l := by
    rintro ⟨m, l1, b1⟩
    change isLive (upd s.h n .dead m) = true at l1
    by_cases e : m = n
    · subst e; rw [upd_same] at l1; simp [isLive] at l1
    · rw [upd_ne _ _ e] at l1
      exact e (R.dis m n l l1 hlive b1 hB)
  have hX : ∀ B, B = l → ¬ Own { s with h := upd s.h n .dead } ι B ∧ ¬ An St B := fun B e => by subst e; exact ⟨noown, R.apt n B hlive hB⟩
  have hround := hrs ro w St (reι x.L ι2) l live L tm hLI g1 (by rw [htm]; exact hvs) LO.heap (fun m hm => LO.out m (by rw [LO.len] at hm; exact hm)) hheap hJ.1 (fun h => noown (LO.own l (LO.sub l h))) (R.apt n l hlive hB)
  refine ⟨fun _ _ => trivial, ?_⟩
  have hfn : L.fn = f := hLI.1.2
  rw [Oper.semAt_eq _ _ _ (plan_defer (by rw [hp]; simp)), hexec, Oper.uponIn_round, hfn]
  refine ⟨fun h => absurd h (by simp), RoundIn.mono hround fun e w' he => ?_⟩
  obtain ⟨j, objs, ι', St', rfl, hh, q, n1, n2⟩ := he
  have hkk := q.k
  simp only [] at hkk
  cases hb2 : (Nat.ble x.L.length objs.length && Nat.ble (x.n + (objs.length - x.L.length)) (b + 100)) with
  | false => rw [hb2] at hkk; exact hkk.elim
  | true =>
  rw [hb2] at hkk
  simp only [cond_true] at hkk
  simp only [Bool.and_eq_true, Nat.ble_eq] at hb2
  obtain ⟨ι4, St2, k, kx⟩ := proc_doneX ok R' hf none (fun _ h => by cases h) LO hxn hL hX q hb2.1 hb2.2
  obtain ⟨k1, k2⟩ := kx l rfl n1 n2
  -- the names that were changed
  have hnm : ∀ y ∈ x.wr ++ wrP x.L x.n 0 objs, (y.1 ∈ x.L1 ∨ y.1 ∈ x.L) ∨ (b ≤ y.1 ∧ y.1 < b + 100) := by
    intro y hy
    rcases List.mem_append.1 hy with hy | hy
    · rcases layG_names hx y hy with h | h
      · exact .inl (.inl h)
      · exact .inr ⟨h.1, by omega⟩
    · obtain ⟨i, i1, i2, i3⟩ := wrP_names 0 objs y hy
      by_cases hi : i < x.L.length
      · have := List.mem_of_getElem? (unr_lt (n := x.n) hi)
        rw [i3]
        exact .inl (.inr this)
      · rw [i3, unr_ge (Nat.le_of_not_lt hi)]
        have := LO.le
        exact .inr ⟨by omega, by omega⟩
  have nwr : n ∉ (x.wr ++ wrP x.L x.n 0 objs).map (·.1) := by
    intro hm
    obtain ⟨y, hy, e⟩ := List.mem_map.1 hm
    rcases hnm y hy with (h | h) | h
    · rw [e] at h; exact nL1 h
    · rw [e] at h; exact nL h
    · rw [e] at h; rw [hf n h.1 h.2] at hι; cases hι
  have k4 := k.rel
  have hι4 : ι4 n = some (.func (.yield l) #[] #[]) := k.nm n _ hι
  have hdead : upds (upd s.h n .dead) (x.wr ++ wrP x.L x.n 0 objs) n = .dead := by rw [upds_notin nwr, upd_same]
  have e4 : upd ι4 n (some (.func (.yield l) #[] #[])) = ι4 := by rw [← hι4, upd_self]
  have A4 := k4.adopt n (.lp f lk live vals j) (.func (.yield l) #[] #[]) (by show isLive (upds (upd s.h n .dead) _ n) = false; rw [hdead]; rfl) (.inr hι4)
    ⟨l, endL L j, rfl, hh, hLI, by rw [e4]; exact hvals.ext k.ext, rfl, rfl⟩ (fun B hl hB' => by
      simp only [blk, base, Option.map_some, Option.some.injEq] at hB'
      subst hB'
      exact ⟨k2, fun m hm hm2 => k1 ⟨m, hm, hm2⟩⟩)
  rw [e4] at A4
  have eh : upds s.h ((x.wr ++ wrP x.L x.n 0 objs) ++ [(n, .lp f lk live vals j)]) = upd (upds (upd s.h n .dead) (x.wr ++ wrP x.L x.n 0 objs)) n (.lp f lk live vals j) := by
    rw [upds_append]
    funext m
    show upd _ n _ m = _
    by_cases e : m = n
    · subst e; simp only [upd_same]
    · rw [upd_ne _ _ e, upd_ne _ _ e]
      exact upds_at (upd_ne _ _ e).symm
  have hrel : Rel E { s with h := upds s.h ((x.wr ++ wrP x.L x.n 0 objs) ++ [(n, .lp f lk live vals j)]) } N a.tmps w' ι4 St2 := by
    rw [eh]; exact A4
  have sub : ∀ B, Own { s with h := upd s.h n .dead } ι B → Own s ι B := by
    rintro B ⟨m, l1, b1⟩
    change isLive (upd s.h n .dead m) = true at l1
    by_cases e : m = n
    · subst e; rw [upd_same] at l1; simp [isLive] at l1
    · rw [upd_ne _ _ e] at l1; exact ⟨m, l1, b1⟩
  have hown : Own s ι l := ⟨n, hlive, hB⟩
  have subX : ∀ B, (Own { s with h := upd s.h n .dead } ι B ∨ B = l) → Own s ι B := fun B h => h.elim (sub B) fun e => e ▸ hown
  refine h _ _ (.bool (Nat.beq j 0)) w' ι4 St2 hkk (fun y hy => ?_) ⟨hrel.put' o.dst hd (.mk1 (.bool .nil) rfl rfl), k.fr.mono fun B _ h => subX B h, k.nm, k.new, fun B hB' => ?_, fun gg B hgg => (k.gr gg B hgg).imp id fun h => h.imp (subX B) id⟩
  · rcases List.mem_append.1 hy with hy | hy
    · rcases hnm y hy with (h | h) | h
      · exact .inl (by rw [hlk]; exact List.mem_cons_of_mem _ (List.mem_append_left _ h))
      · exact .inl (by rw [hlk]; exact List.mem_cons_of_mem _ (List.mem_append_right _ h))
      · exact .inr h
    · simp only [List.mem_cons, List.not_mem_nil, or_false] at hy
      subst hy
      exact .inl (by rw [hlk]; simp)
  · obtain ⟨m, l1, b1⟩ := hB'
    change isLive (upds s.h ((x.wr ++ wrP x.L x.n 0 objs) ++ [(n, .lp f lk live vals j)]) m) = true at l1
    rw [eh] at l1
    by_cases e : m = n
    · subst e
      rw [hι4] at b1
      obtain rfl : l = B := by simpa [blkO, blk, base] using b1
      exact .inl hown
    · rw [upd_ne _ _ e] at l1
      exact (k.own B ⟨m, l1, b1⟩).imp (subX B) id
end
end Go.V
