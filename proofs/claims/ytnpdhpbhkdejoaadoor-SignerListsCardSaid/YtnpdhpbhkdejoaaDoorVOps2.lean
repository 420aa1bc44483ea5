/- V, sixth part: the operations one by one. -/
import Derived.Test.YtnpdhpbhkdejoaaDoorVOps
set_option linter.unusedVariables false
namespace Go.V
variable {U : Nat → Type}
section
variable {E : Env U} {w : World} {St : Bool → Nat → Prop} {ι : Nat → Option Value} {s : S U} {N : Nat} {a : Act} {b : Nat} {o : Oper}

theorem Rel.lt {tm : Array Value} (R : Rel E s N tm w ι St) (n B : Nat) (hl : isLive (s.h n) = true) (hB : blkO (ι n) = some B) : B < w.heap.size := by
  have h0 := R.obj n
  cases hn : s.h n with
  | dead => rw [hn] at hl; simp [isLive] at hl
  | fz => rw [hn] at hl; simp [isLive] at hl
  | box q =>
    rw [hn] at h0
    obtain ⟨B', cs, h1, -, -, -, h5⟩ := h0
    rw [h1] at hB
    simp only [blkO, Option.bind_some, blk, base, Option.map_some, Option.some.injEq] at hB
    exact hB ▸ h5
  | lp f lid live vals j =>
    rw [hn] at h0
    obtain ⟨r, L, h1, h5, -⟩ := h0
    rw [h1] at hB
    simp only [blkO, Option.bind_some, blk, base, Option.map_some, Option.some.injEq] at hB
    exact hB ▸ (Array.getElem?_eq_some_iff.1 h5).1
  | lst c xs =>
    rw [hn] at h0
    rcases h0 with ⟨⟨a', h1⟩, -⟩ | ⟨B', off, cap, ds, h1, -, -, -, -, h5⟩
    · rw [h1] at hB; simp [blkO, blk, base_zero] at hB
    · rw [h1] at hB
      simp only [blkO, Option.bind_some, blk, base, Option.map_some, Option.some.injEq] at hB
      exact hB ▸ h5

/-- one box is written -/
theorem Ops.store (R : Rel E s N a.tmps w ι St) {n B : Nat} {q q' : A U} {cs' : List Value} {off : Nat} {ds : List Value} {v : A U} {nx : Next} {u : Value}
    (hn : s.h n = .box q) (hι : ι n = some (.pointer (some ⟨B, 0, .none⟩)))
    (hr : (execOp a.eval o).run E.P w = .ok nx (w.setCells B off ds)) (hx : nx = .value u ∨ (nx = .skip ∧ u = undef)) (hlt : B < w.heap.size)
    (hc : RC E w St ι [q'] cs' []) (hR : (w.setCells B off ds).rangeAt B 0 cs') (hT : (w.setCells B off ds).there B 0 cs'.length)
    (hv : ∀ w', Ext w St ι w' St ι → RT E w' St ι v u) : Ops E s N a w ι St b o [(n, .box q')] v := by
  have hl : isLive (s.h n) = true := by rw [hn]; rfl
  have hB : blkO (ι n) = some B := by rw [hι]; rfl
  have hSt : ¬ An St B := R.apt n B hl hB
  have hsame : ∀ B', B' ≠ B → (w.setCells B off ds).heap[B']? = w.heap[B']? := fun B' h => heap_setCells B ds off w B' h
  have x : Ext w St ι (w.setCells B off ds) St ι := ⟨fun _ _ h => h, fun _ _ h => h, fun b hb => hsame b fun e => hSt (e ▸ hb), by rw [size_setCells]; exact Nat.le_refl _⟩
  have R1 := (R.kill n).world (w' := w.setCells B off ds) (by rw [size_setCells]; exact Nat.le_refl _) (fun B' hB' => hsame B' fun e => hSt (e ▸ hB'))
    (fun m B' hm hB' => hsame B' fun e => by
      subst e
      by_cases e2 : m = n
      · subst e2; change isLive (upd s.h m .dead m) = true at hm; rw [upd_same] at hm; simp [isLive] at hm
      · change isLive (upd s.h n .dead m) = true at hm; rw [upd_ne _ _ e2] at hm
        exact e2 (R.dis m n B' hm hl hB' hB))
  have hι' : upd ι n (some (.pointer (some ⟨B, 0, .none⟩))) = ι := by rw [← hι, upd_self]
  have R2 := R1.adopt n (.box q') (.pointer (some ⟨B, 0, .none⟩)) (by show isLive (upd s.h n .dead n) = false; rw [upd_same]; rfl) (.inr hι)
    (by rw [hι']; exact ⟨B, cs', rfl, hc.ext x, hR, hT, by rw [size_setCells]; exact hlt⟩)
    (fun B' _ hB' => by
      simp only [blk, base, Option.map_some, Option.some.injEq] at hB'
      subst hB'
      refine ⟨hSt, fun m hm hm2 => ?_⟩
      by_cases e2 : m = n
      · subst e2; change isLive (upd s.h m .dead m) = true at hm; rw [upd_same] at hm; simp [isLive] at hm
      · change isLive (upd s.h n .dead m) = true at hm; rw [upd_ne _ _ e2] at hm
        exact e2 (R.dis m n B hm hl hm2 hB))
  rw [hι'] at R2
  have R3 : Rel E { s with h := upds s.h [(n, .box q')] } N a.tmps (w.setCells B off ds) ι St := by
    have e : upd (upd s.h n .dead) n (.box q') = upd s.h n (.box q') := upd_upd _ _ _ _
    simp only [] at R2
    rw [e] at R2
    exact R2
  refine ⟨nx, u, _, ι, St, hr, hx, R3, hv _ x, Fr.setCells w B off ds ⟨n, hl, hB⟩, fun _ _ h => h, fun _ h => .inl h, ?_, fun _ _ h => .inl h⟩
  rintro B' ⟨m, h1, h2⟩
  by_cases e : m = n
  · subst e; exact .inl ⟨m, hl, h2⟩
  · simp only [upds, upd_ne _ _ e] at h1
    exact .inl ⟨m, h1, h2⟩

-- move, pick
theorem op_move (ok : EnvOk2 E) (R : Rel E s N a.tmps w ι St) (x : Operand) (ho : o.op = .move x ∨ o.op = .assign x) : Ops E s N a w ι St b o [] (s.ev E o.type x) :=
  Ops.pure R (u := a.eval x) (by rcases ho with h | h <;> simp [execOp, h]) (ev_ok ok R _ _)

theorem op_pick (ok : EnvOk2 E) (R : Rel E s N a.tmps w ι St) (c x y : Operand) (ho : o.op = .pick c x y) {q : Bool} (hc : s.ev E 0 c = .bool q) :
    Ops E s N a w ι St b o [] (cond q (s.ev E o.type x) (s.ev E o.type y)) := by
  have h := ev_ok ok R 0 c
  rw [hc] at h
  have hb := RV.bool_inv h
  refine Ops.pure R (u := cond q (a.eval x) (a.eval y)) ?_ ?_
  · cases q <;> simp [execOp, ho, hb, asBool]
  · cases q
    · exact ev_ok ok R _ _
    · exact ev_ok ok R _ _

-- box
theorem size_zero_of {P : Nat → Prop} : True := trivial

theorem there_alloc (w : World) (cs : Array Value) (t : TypeId) : (w.alloc (.cells cs t)).there w.heap.size 0 cs.size := by
  intro j hj
  constructor
  · simp [hj]
  · simp only [World.frozen?, World.alloc]
    simp
theorem rangeAt_alloc (w : World) (cs : Array Value) (t : TypeId) : (w.alloc (.cells cs t)).rangeAt w.heap.size 0 cs.toList := by
  intro j v hj
  simp only [Nat.zero_add, World.cell?_alloc_new]
  simpa using hj

theorem fresh_ext {v : Option Value} (hb : ι b = none) {w' : World} (hf : Fr (fun _ => False) w w') (hs : ∀ B, An St B → B < w.heap.size) : Ext w St ι w' St (upd ι b v) :=
  ⟨fun _ _ h => h, fun n u h => by
    by_cases e : n = b
    · subst e; rw [hb] at h; simp at h
    · rw [upd_ne _ _ e]; exact h, fun B hB => hf.same B (hs B hB) id, hf.size⟩

theorem op_box (ok : EnvOk2 E) (R : Rel E s N a.tmps w ι St) (hb : ι b = none) (hd : isLive (s.h b) = false) (t : TypeId) (x : Operand) (ho : o.op = .box t x)
    (hk : known (s.ev E t x) = true) : Ops E s N a w ι St b o [(b, .box (s.ev E t x))] (.ptr b []) := by
  have h := (ev_ok ok R t x).rv hk
  have hf := Fr.alloc (fun _ => False) w (.cells (a.eval x).cells t)
  have e := fresh_ext (v := some (.pointer (some ⟨w.heap.size, 0, .none⟩))) hb hf R.stb
  refine Ops.fresh R hb hd (u := .pointer (some ⟨w.heap.size, 0, .none⟩)) (x := .pointer (some ⟨w.heap.size, 0, .none⟩)) (w' := w.alloc (.cells (a.eval x).cells t)) ?_ hf
    (.inr ⟨w.heap.size, rfl, Nat.le_refl _⟩) ?_ ?_
  · simp [execOp, ho, Instr.box, newVar, newRow]
  · refine ⟨w.heap.size, (a.eval x).cells.toList, rfl, h.1.ext e, rangeAt_alloc _ _ _, ?_, by simp⟩
    simpa using there_alloc w (a.eval x).cells t
  · refine RT.of_rv (.mk1 (.ptr (upd_same _ _ _) rfl trivial .nil) rfl rfl)

theorem op_alloc (ok : EnvOk2 E) (R : Rel E s N a.tmps w ι St) (hb : ι b = none) (hd : isLive (s.h b) = false) (t : TypeId) (ho : o.op = .alloc t)
    (hk : known (zero E t) = true) : Ops E s N a w ι St b o [(b, .box (zero E t))] (.ptr b []) := by
  obtain ⟨i, z, hi, hz, hv⟩ := ok.zer t hk
  have hf := Fr.alloc (fun _ => False) w (.cells z.cells t)
  refine Ops.fresh R hb hd (u := .pointer (some ⟨w.heap.size, 0, .none⟩)) (x := .pointer (some ⟨w.heap.size, 0, .none⟩)) (w' := w.alloc (.cells z.cells t)) ?_ hf
    (.inr ⟨w.heap.size, rfl, Nat.le_refl _⟩) ?_ ?_
  · simp [execOp, ho, Instr.alloc, zeroValue, typeInfo, hi, hz, newVar, newRow]
  · refine ⟨w.heap.size, z.cells.toList, rfl, (hv _ _ _).1, rangeAt_alloc _ _ _, ?_, by simp⟩
    simpa using there_alloc w z.cells t
  · refine RT.of_rv (.mk1 (.ptr (upd_same _ _ _) rfl trivial .nil) rfl rfl)

-- fields and elements
theorem Addr.add_eq (B off n : Nat) : (⟨B, off, .none⟩ : Addr).add n = ⟨B, off + n, .none⟩ := Addr.add_mid B off n

theorem under_st (ok : EnvOk2 E) {t : TypeId} {fs : List (TypeId × Nat)} (h : E.ty t = .st fs) : ∃ fields : Array Field, E.P.underlying t = some (.struct fields) ∧ fs = fields.toList.map fun f => (f.type, f.offset) := by
  have := ok.under t; rw [h] at this; exact this
theorem under_sl (ok : EnvOk2 E) {t e : TypeId} (h : E.ty t = .sl e) : E.P.underlying t = some (.slice e) := by
  have := ok.under t; rw [h] at this; exact this
theorem under_arr (ok : EnvOk2 E) {t e : TypeId} {n : Nat} (h : E.ty t = .arr n e) : E.P.underlying t = some (.array n e) := by
  have := ok.under t; rw [h] at this; exact this

theorem field_of {fields : Array Field} {fs : List (TypeId × Nat)} (h : fs = fields.toList.map fun f => (f.type, f.offset)) {k : Nat} {x : TypeId × Nat} (hk : fieldAt fs k = some x) :
    ∃ f, fields[k]? = some f ∧ x = (f.type, f.offset) := by
  subst h
  simp only [fieldAt, List.getElem?_map, Option.map_eq_some_iff] at hk
  obtain ⟨f, h1, rfl⟩ := hk
  exact ⟨f, by simpa using h1, rfl⟩


theorem fits_iff {t : TypeId} {v : A U} (h : fits E t v = true) : known v = true ∧ size E.sz v = E.sz t ∧ isAgg v = rowTy (E.ty t) ∧ E.ty t ≠ .no := by
  simp only [fits, Bool.and_eq_true, beq_iff_eq, Bool.not_eq_true'] at h
  refine ⟨h.1, Nat.eq_of_beq_eq_true h.2.1, h.2.2.1, fun e => ?_⟩
  rw [e] at h; simp [isNo] at h

theorem rangeAt_sub {B off : Nat} {cs : List Value} (h : w.rangeAt B off cs) (k m : Nat) : w.rangeAt B (off + k) ((cs.drop k).take m) := by
  intro j v hj
  have : cs[k + j]? = some v := by
    rw [List.getElem?_take] at hj
    split at hj
    · rwa [List.getElem?_drop] at hj
    · simp at hj
  have := h _ _ this
  rwa [show off + k + j = off + (k + j) by omega]

theorem vp_zero {L : Nat} : ∀ {p : List Step}, vp 0 p → vp L p
  | [], _ => trivial
  | .fld _ _ :: p, h => vp_zero (p := p) h
  | .idx _ _ _ :: p, h => ⟨h.1, vp_zero h.2⟩
  | .elt _ _ :: _, h => absurd h.1 (by omega)

/-- an element of a row that lies somewhere -/
theorem elem_at (ok : EnvOk E) {c : Nat} {xs : List (U c)} {ds : List Value} {B off i : Nat} {L : Nat} {p : List Step} (h : RC E w St ι (xs.map (E.enc c)) ds []) (hr : w.rangeAt B off ds) (hi : i < xs.length)
    (hv : vp L p) (hk : known (getP E (E.enc c (xs.getD i (E.dflt c))) p) = true) :
    ∃ es, RC E w St ι [getP E (E.enc c (xs.getD i (E.dflt c))) p] es [] ∧ w.rangeAt B (off + (i * E.sz c + po p)) es := by
  obtain ⟨q1, q2⟩ := h.elem ok hi
  obtain ⟨r1, r2⟩ := q1.getP ok p hv hk
  refine ⟨_, r1, ?_⟩
  have := rangeAt_sub (rangeAt_sub hr (i * E.sz c) (E.sz c)) (po p) (size E.sz (getP E (E.enc c (xs.getD i (E.dflt c))) p))
  rwa [show off + (i * E.sz c + po p) = off + i * E.sz c + po p by omega]

theorem getO_at (ok : EnvOk E) {tm : Array Value} (R : Rel E s N tm w ι St) {n B off : Nat} {u : Value} {p : List Step} (hι : ι n = some u) (hb : base u = some (B, off)) (hv : vp (lenV' u) p)
    (hk : known (getO E (s.h n) p) = true) : ∃ es, RC E w St ι [getO E (s.h n) p] es [] ∧ w.rangeAt B (off + po p) es := by
  have h0 := R.obj n
  cases hn : s.h n with
  | dead => rw [hn] at hk; cases p <;> simp [getO, known] at hk
  | lp f lid live vals j => rw [hn] at hk; cases p <;> simp [getO, known] at hk
  | box q =>
    rw [hn] at h0 hk
    obtain ⟨B', cs, h1, h2, h3, h4, h5⟩ := h0
    rw [hι] at h1
    simp only [Option.some.injEq] at h1
    subst h1
    simp only [base, Option.some.injEq, Prod.mk.injEq] at hb
    obtain ⟨rfl, rfl⟩ := hb
    obtain ⟨r1, r2⟩ := h2.getP ok p hv hk
    exact ⟨_, r1, rangeAt_sub h3 _ _⟩
  | lst c xs =>
    rw [hn] at h0 hk
    cases p with
    | nil => simp [getO, known] at hk
    | cons st p =>
      cases st with
      | elt i e =>
        simp only [getO] at hk ⊢
        cases he : Nat.beq (E.sz c) e with
        | false => rw [he] at hk; simp [known] at hk
        | true =>
          rw [he] at hk
          simp only [cond_true] at hk ⊢
          have he' := Nat.eq_of_beq_eq_true he
          rcases h0 with ⟨⟨a', h1⟩, h2⟩ | ⟨B', off', cap, ds, h1, h2, h3, h4, h5, h6⟩
          · rw [hι] at h1
            simp only [Option.some.injEq] at h1
            subst h1
            simp [base_zero] at hb
          · rw [hι] at h1
            simp only [Option.some.injEq] at h1
            subst h1
            simp only [base, Option.some.injEq, Prod.mk.injEq] at hb
            obtain ⟨rfl, rfl⟩ := hb
            simp only [po, ← he']
            exact elem_at ok h2 h3 hv.1 hv.2 hk
      | _ => simp [getO, known] at hk
  | fz c xs =>
    rw [hn] at h0 hk
    cases p with
    | nil => simp [getO, known] at hk
    | cons st p =>
      cases st with
      | elt i e =>
        simp only [getO] at hk ⊢
        cases he : Nat.beq (E.sz c) e with
        | false => rw [he] at hk; simp [known] at hk
        | true =>
          rw [he] at hk
          simp only [cond_true] at hk ⊢
          have he' := Nat.eq_of_beq_eq_true he
          obtain ⟨v, h1, h2⟩ := h0
          rw [hι] at h1
          simp only [Option.some.injEq] at h1
          subst h1
          cases h2 with
          | roE h => exact absurd hv.1 (by simp [lenV'])
          | ro q1 q2 q3 q4 _ =>
            have hb' := (base_inv hb).1
            simp only [Prod.mk.injEq] at hb'
            obtain ⟨rfl, rfl⟩ := hb'
            simp only [po, ← he']
            exact elem_at ok q1 q2 hv.1 hv.2 hk
      | _ => simp [getO, known] at hk

theorem oneCell_agg {v : Value} (h : v.oneCell' = true) : isAggV v = false := by
  cases v <;> first | rfl | simp [Value.oneCell'] at h

/-- a variable is read -/
theorem load_run (ok : EnvOk2 E) {t : TypeId} {v : A U} {B off : Nat} {ds : List Value} (hf : fits E t v = true) (h : RC E w St ι [v] ds []) (hr : w.rangeAt B off ds) :
    ∃ x, (Instr.loadAt t (.pointer (some ⟨B, off, .none⟩))).run E.P w = .ok x w ∧ RV E w St ι v x := by
  obtain ⟨h1, h2, h3, h4⟩ := fits_iff hf
  obtain ⟨i, hi, hs, -⟩ := ok.info t h4
  obtain ⟨d, hd, hrow⟩ := ok.agg t h4
  have hl := h.length ok.toEnvOk
  simp only [sizes, Nat.add_zero] at hl
  cases ha : isAgg v with
  | true =>
    refine ⟨.agg ds.toArray, ?_, by show RC E w St ι [v] ds.toArray.toList []; simpa using h, by rw [ha]; rfl⟩
    exact run_loadAt_mid w B off t ds d hr hd (by rw [hrow, ← h3, ha]) (by rw [hi]; simp [hs, hl, h2])
  | false =>
    have hs1 : size E.sz v = 1 := by cases v <;> first | rfl | simp [isAgg] at ha
    rw [hs1] at hl
    obtain ⟨x, rfl⟩ : ∃ x, ds = [x] := by
      match ds, hl with
      | [x], _ => exact ⟨x, rfl⟩
    have hc := hr 0 x rfl
    rw [Nat.add_zero] at hc
    have hx := oneCell_agg (h.oneCell x (by simp))
    refine ⟨x, ?_, .mk1 h ha hx⟩
    have hagg : (Go.isAgg t).run E.P w = .ok false w := by
      unfold Go.isAgg
      rw [Sem.run_bind, run_underlying hd w]
      rw [← h3, ha] at hrow
      cases d <;> simp_all
    simp [Instr.loadAt, Instr.sureAddr, loadVar, hagg, hc]

theorem op_load (ok : EnvOk2 E) (R : Rel E s N a.tmps w ι St) (t : TypeId) (x : Operand) (ho : o.op = .load t x) {n : Nat} {p : List Step} (hx : s.ev E 0 x = .ptr n p)
    (hf : fits E t (getO E (s.h n) p) = true) : Ops E s N a w ι St b o [] (getO E (s.h n) p) := by
  have h := ev_ok ok R 0 x
  rw [hx] at h
  obtain ⟨u, B, off, h1, h2, h3, h4⟩ := RV.ptr_inv h
  obtain ⟨es, q1, q2⟩ := getO_at ok.toEnvOk R h1 h2 h3 (fits_iff hf).1
  obtain ⟨y, r1, r2⟩ := load_run ok hf q1 q2
  exact Ops.pure R (u := y) (by simp [execOp, ho, h4, r1]) (RT.of_rv r2)

theorem op_load_rp (ok : EnvOk2 E) (R : Rel E s N a.tmps w ι St) (t : TypeId) (x : Operand) (ho : o.op = .load t x) {g : Bool} {c i : Nat} {l : List (U c)} {p : List Step} (hx : s.ev E 0 x = .rp g c l i p)
    (hf : fits E t (getP E (E.enc c (l.getD i (E.dflt c))) p) = true) : Ops E s N a w ι St b o [] (getP E (E.enc c (l.getD i (E.dflt c))) p) := by
  have h := ev_ok ok R 0 x
  rw [hx] at h
  obtain ⟨ds, B, off, h1, h2, h3, h4, h5, h6⟩ := RV.rp_inv h
  obtain ⟨es, q1, q2⟩ := elem_at ok.toEnvOk h1 h2 h4 h5 (fits_iff hf).1
  obtain ⟨y, r1, r2⟩ := load_run ok hf q1 q2
  exact Ops.pure R (u := y) (by simp [execOp, ho, h6, r1]) (RT.of_rv r2)

theorem fieldAt_run (ok : EnvOk2 E) {t : TypeId} {fs : List (TypeId × Nat)} {k : Nat} {f : TypeId × Nat} (ht : E.ty t = .st fs) (hk : fieldAt fs k = some f) (hz : (Nat.beq (E.sz f.1) 0 || isNo (E.ty f.1)) = false) (B off : Nat) :
    (Instr.fieldAt t (.pointer (some ⟨B, off, .none⟩)) k).run E.P w = .ok (.pointer (some ⟨B, off + f.2, .none⟩)) w := by
  obtain ⟨fields, h1, h2⟩ := under_st ok ht
  obtain ⟨g, h3, rfl⟩ := field_of h2 hk
  simp only [Bool.or_eq_false_iff] at hz
  obtain ⟨i, hi, hs, -⟩ := ok.info g.type (fun e => by rw [e] at hz; simp [isNo] at hz)
  have h0 : i.size ≠ 0 := by rw [hs]; intro e; rw [e] at hz; simp at hz
  simp [Instr.fieldAt, run_underlying h1, h3, Instr.sureAddr, fieldPlace, sizeOf, typeInfo, hi, h0, Addr.add_eq]

theorem op_fieldAddr (ok : EnvOk2 E) (R : Rel E s N a.tmps w ι St) (t : TypeId) (x : Operand) (k : Nat) (ho : o.op = .fieldAddr t x k) {n : Nat} {p : List Step} (hx : s.ev E 0 x = .ptr n p)
    {fs : List (TypeId × Nat)} {f : TypeId × Nat} (ht : E.ty t = .st fs) (hk : fieldAt fs k = some f) (hz : (Nat.beq (E.sz f.1) 0 || isNo (E.ty f.1)) = false) :
    Ops E s N a w ι St b o [] (.ptr n (p ++ [.fld k f.2])) := by
  have h := ev_ok ok R 0 x
  rw [hx] at h
  obtain ⟨u, B, off, h1, h2, h3, h4⟩ := RV.ptr_inv h
  refine Ops.pure R (u := .pointer (some ⟨B, off + po p + f.2, .none⟩)) (by simp [execOp, ho, h4, fieldAt_run ok ht hk hz]) (RT.of_rv (.mk1 ?_ rfl rfl))
  have : off + po p + f.2 = off + po (p ++ [.fld k f.2]) := by simp [po_append, po]; omega
  rw [this]
  exact .ptr h1 h2 ((vp_append _ _ _).2 ⟨h3, trivial⟩) .nil

theorem op_fieldAddr_rp (ok : EnvOk2 E) (R : Rel E s N a.tmps w ι St) (t : TypeId) (x : Operand) (k : Nat) (ho : o.op = .fieldAddr t x k) {g : Bool} {c i : Nat} {l : List (U c)} {p : List Step} (hx : s.ev E 0 x = .rp g c l i p)
    {fs : List (TypeId × Nat)} {f : TypeId × Nat} (ht : E.ty t = .st fs) (hk : fieldAt fs k = some f) (hz : (Nat.beq (E.sz f.1) 0 || isNo (E.ty f.1)) = false) :
    Ops E s N a w ι St b o [] (.rp g c l i (p ++ [.fld k f.2])) := by
  have h := ev_ok ok R 0 x
  rw [hx] at h
  obtain ⟨ds, B, off, h1, h2, h3, h4, h5, h6⟩ := RV.rp_inv h
  refine Ops.pure R (u := .pointer (some ⟨B, off + (i * E.sz c + po p) + f.2, .none⟩)) (by simp [execOp, ho, h6, fieldAt_run ok ht hk hz]) (RT.of_rv (.mk1 ?_ rfl rfl))
  have : off + (i * E.sz c + po p) + f.2 = off + (i * E.sz c + po (p ++ [.fld k f.2])) := by simp [po_append, po]; omega
  rw [this]
  exact .rp h1 h2 h3 h4 ((vp_append _ _ _).2 ⟨h5, trivial⟩) .nil

/-- an element's place -/
theorem indexAt_slice (ok : EnvOk2 E) {t e : TypeId} (ht : E.ty t = .sl e) (hne : E.ty e ≠ .no) (B off L C : Nat) (k : IntKind) (n : Int) (h0 : 0 ≤ n) (h1 : n < L) :
    (Instr.indexAt t (.slice (some ⟨B, off, .none⟩) L C) (.int k n)).run E.P w = .ok (.pointer (some ⟨B, off + n.toNat * E.sz e, .none⟩)) w := by
  obtain ⟨i, hi, hs, -⟩ := ok.info e hne
  simp [Instr.indexAt, asIntOf, run_underlying (under_sl ok ht), h0, h1, sizeOf, typeInfo, hi, hs, Addr.add_eq]
theorem indexAt_arr (ok : EnvOk2 E) {t e : TypeId} {L : Nat} (ht : E.ty t = .arr L e) (hne : E.ty e ≠ .no) (B off : Nat) (k : IntKind) (n : Int) (h0 : 0 ≤ n) (h1 : n < L) :
    (Instr.indexAt t (.pointer (some ⟨B, off, .none⟩)) (.int k n)).run E.P w = .ok (.pointer (some ⟨B, off + n.toNat * E.sz e, .none⟩)) w := by
  obtain ⟨i, hi, hs, -⟩ := ok.info e hne
  simp [Instr.indexAt, asIntOf, run_underlying (under_arr ok ht), Instr.sureAddr, h0, h1, sizeOf, typeInfo, hi, hs, Addr.add_eq]

theorem slOf_iff' (ok : EnvOk2 E) {t c : Nat} (h : slOf E t c = true) : E.ty t = .sl c ∧ E.ty c ≠ .no ∧ E.by' c ≠ 0 := by
  unfold slOf at h
  cases ht : E.ty t with
  | sl e =>
    rw [ht] at h
    simp only [Bool.and_eq_true, Bool.not_eq_true'] at h
    have := Nat.eq_of_beq_eq_true h.1
    subst this
    exact ⟨rfl, fun e => by rw [e] at h; simp [isNo] at h, fun e => by rw [e] at h; simp at h⟩
  | _ => rw [ht] at h; simp at h
theorem slOf_iff (ok : EnvOk2 E) {t c : Nat} (h : slOf E t c = true) : E.ty t = .sl c ∧ E.ty c ≠ .no := ⟨(slOf_iff' ok h).1, (slOf_iff' ok h).2.1⟩

/-- a name's own slice, as it lies -/
theorem Rel.own_at {tm : Array Value} (R : Rel E s N tm w ι St) {m c : Nat} {l : List (U c)} (hm : s.h m = .lst c l ∨ s.h m = .fz c l) {a' : Option Addr} {L C : Nat} (h : ι m = some (.slice a' L C)) :
    L = l.length ∧ (l = [] ∨ ∃ B off ds, a' = some ⟨B, off, .none⟩ ∧ RC E w St ι (l.map (E.enc c)) ds [] ∧ w.rangeAt B off ds ∧ L ≤ C) := by
  have h0 := R.obj m
  rcases hm with hm | hm <;> rw [hm] at h0
  · rcases h0 with ⟨⟨a0, h1⟩, h2⟩ | ⟨B, off, cap, ds, h1, h2, h3, h4, h5, h6⟩
    · rw [h] at h1
      simp only [Option.some.injEq, Value.slice.injEq] at h1
      exact ⟨by rw [h2]; exact h1.2.1, .inl h2⟩
    · rw [h] at h1
      simp only [Option.some.injEq, Value.slice.injEq] at h1
      obtain ⟨rfl, rfl, rfl⟩ := h1
      exact ⟨rfl, .inr ⟨B, off, ds, rfl, h2, h3, h5⟩⟩
  · obtain ⟨v, h1, h2⟩ := h0
    rw [h] at h1
    simp only [Option.some.injEq] at h1
    subst h1
    cases h2 with
    | roE h => exact ⟨rfl, .inl rfl⟩
    | ro q1 q2 q3 q4 _ => exact ⟨rfl, .inr ⟨_, _, _, rfl, q1, q2, q4⟩⟩

theorem op_index_own (ok : EnvOk2 E) (R : Rel E s N a.tmps w ι St) (t : TypeId) (x i : Operand) (ho : o.op = .indexAddr t x i) {k : IntKind} {n : Int} (hi : s.ev E 0 i = .int k n) {m c : Nat} {l : List (U c)} (hx : s.ev E t x = .own m)
    (hm : s.h m = .lst c l ∨ s.h m = .fz c l) (ht : slOf E t c = true) (h0 : 0 ≤ n) (h1 : n < (l.length : Int)) : Ops E s N a w ι St b o [] (.ptr m [.elt n.toNat (E.sz c)]) := by
  have hv := ev_ok ok R 0 i
  rw [hi] at hv
  have hv := RV.int_inv hv
  have hw := ev_ok ok R t x
  rw [hx] at hw
  obtain ⟨a', L, C, q1, q2⟩ := RV.own_inv hw
  obtain ⟨rfl, q3⟩ := R.own_at hm q2
  obtain ⟨t1, t2⟩ := slOf_iff ok ht
  rcases q3 with rfl | ⟨B, off, ds, rfl, q4, q5, q6⟩
  · simp at h1; omega
  · refine Ops.pure R (u := .pointer (some ⟨B, off + n.toNat * E.sz c, .none⟩)) ?_ (RT.of_rv (.mk1 ?_ rfl rfl))
    · simp [execOp, ho, hv, q1, indexAt_slice ok t1 t2 B off l.length C k n h0 h1]
    · have : off + n.toNat * E.sz c = off + po [.elt n.toNat (E.sz c)] := by simp [po]
      rw [this]
      exact .ptr q2 (base_pos (by omega)) ⟨by simp only [lenV']; omega, trivial⟩ .nil

theorem op_index_ro (ok : EnvOk2 E) (R : Rel E s N a.tmps w ι St) (t : TypeId) (x i : Operand) (ho : o.op = .indexAddr t x i) {k : IntKind} {n : Int} (hi : s.ev E 0 i = .int k n) {g : Bool} {c : Nat} {l : List (U c)}
    (hx : s.ev E t x = .ro g c l ∨ s.ev E t x = .clip g c l) (ht : slOf E t c = true) (h0 : 0 ≤ n) (h1 : n < (l.length : Int)) : Ops E s N a w ι St b o [] (.rp g c l n.toNat []) := by
  have hv := ev_ok ok R 0 i
  rw [hi] at hv
  have hv := RV.int_inv hv
  have hw := ev_ok ok R t x
  obtain ⟨t1, t2⟩ := slOf_iff ok ht
  have key : ∃ a' cap, a.eval x = .slice a' l.length cap ∧ (l = [] ∨ ∃ ds B off, a' = some ⟨B, off, .none⟩ ∧ RC E w St ι (l.map (E.enc c)) ds [] ∧ w.rangeAt B off ds ∧ St g B) := by
    rcases hx with hx | hx <;> rw [hx] at hw
    · obtain ⟨a', cap, q1, q2⟩ := RV.ro_inv hw
      exact ⟨a', cap, q1, q2.imp id fun ⟨ds, B, off, h1, h2, h3, h4, h5⟩ => ⟨ds, B, off, h1, h2, h3, h4⟩⟩
    · obtain ⟨a', q1, q2⟩ := RV.clip_inv hw
      exact ⟨a', _, q1, q2⟩
  obtain ⟨a', cap, q1, q2⟩ := key
  rcases q2 with rfl | ⟨ds, B, off, rfl, q3, q4, q5⟩
  · simp at h1; omega
  · refine Ops.pure R (u := .pointer (some ⟨B, off + n.toNat * E.sz c, .none⟩)) ?_ (RT.of_rv (.mk1 ?_ rfl rfl))
    · simp [execOp, ho, hv, q1, indexAt_slice ok t1 t2 B off l.length cap k n h0 h1]
    · have : off + n.toNat * E.sz c = off + (n.toNat * E.sz c + po []) := by simp [po]
      rw [this]
      exact .rp q3 q4 q5 (by omega) trivial .nil

theorem op_index_sub (ok : EnvOk2 E) (R : Rel E s N a.tmps w ι St) (t : TypeId) (x i : Operand) (ho : o.op = .indexAddr t x i) {k : IntKind} {n : Int} (hi : s.ev E 0 i = .int k n) {m c j len : Nat} {l : List (U c)}
    (hx : s.ev E t x = .sub m c j len) (hm : s.h m = .lst c l ∨ s.h m = .fz c l) (ht : slOf E t c = true) (h0 : 0 ≤ n) (h1 : n < (len : Int)) : Ops E s N a w ι St b o [] (.ptr m [.elt (j + n.toNat) (E.sz c)]) := by
  have hv := ev_ok ok R 0 i
  rw [hi] at hv
  have hv := RV.int_inv hv
  have hw := ev_ok ok R t x
  rw [hx] at hw
  obtain ⟨a0, a1, L, C, cap, r1, r2, r3, r4, r5, r6⟩ := RV.sub_inv hw
  obtain ⟨rfl, q3⟩ := R.own_at hm r1
  obtain ⟨t1, t2⟩ := slOf_iff ok ht
  rcases q3 with rfl | ⟨B, off, ds, rfl, q4, q5, q6⟩
  · simp at r2; omega
  · have hc : cap ≠ 0 := by omega
    have ha := r5.resolve_left hc
    simp only [Option.map_some, Addr.add_eq] at ha
    subst ha
    refine Ops.pure R (u := .pointer (some ⟨B, off + j * E.sz c + n.toNat * E.sz c, .none⟩)) ?_ (RT.of_rv (.mk1 ?_ rfl rfl))
    · simp [execOp, ho, hv, r6, indexAt_slice ok t1 t2 B (off + j * E.sz c) len cap k n h0 h1]
    · have : off + j * E.sz c + n.toNat * E.sz c = off + po [.elt (j + n.toNat) (E.sz c)] := by simp [po, Nat.add_mul]; omega
      rw [this]
      exact .ptr r1 (base_pos (by omega)) ⟨by simp only [lenV']; omega, trivial⟩ .nil

theorem op_index_bsl (ok : EnvOk2 E) (R : Rel E s N a.tmps w ι St) (t : TypeId) (x i : Operand) (ho : o.op = .indexAddr t x i) {k : IntKind} {n : Int} (hi : s.ev E 0 i = .int k n) {m c M j len : Nat} {p : List Step}
    (hx : s.ev E t x = .bsl m p c M j len) (ht : slOf E t c = true) (h0 : 0 ≤ n) (h1 : n < (len : Int)) : Ops E s N a w ι St b o [] (.ptr m (p ++ [.idx (j + n.toNat) (E.sz c) M])) := by
  have hv := ev_ok ok R 0 i
  rw [hi] at hv
  have hv := RV.int_inv hv
  have hw := ev_ok ok R t x
  rw [hx] at hw
  obtain ⟨B, a1, cap, r1, r2, r3, r4, r5, r6, r7⟩ := RV.bsl_inv hw
  obtain ⟨t1, t2⟩ := slOf_iff ok ht
  have ha := r5.resolve_left (by omega)
  subst ha
  refine Ops.pure R (u := .pointer (some ⟨B, po p + j * E.sz c + n.toNat * E.sz c, .none⟩)) ?_ (RT.of_rv (.mk1 ?_ rfl rfl))
  · simp [execOp, ho, hv, r7, indexAt_slice ok t1 t2 B _ len cap k n h0 h1]
  · have : po p + j * E.sz c + n.toNat * E.sz c = 0 + po (p ++ [.idx (j + n.toNat) (E.sz c) M]) := by simp [po, po_append, Nat.add_mul]; omega
    rw [this]
    exact .ptr r1 rfl ((vp_append _ _ _).2 ⟨vp_zero r6, by omega, trivial⟩) .nil

theorem op_index_arr (ok : EnvOk2 E) (R : Rel E s N a.tmps w ι St) (t : TypeId) (x i : Operand) (ho : o.op = .indexAddr t x i) {k : IntKind} {n : Int} (hi : s.ev E 0 i = .int k n) {m : Nat} {p : List Step}
    (hx : s.ev E t x = .ptr m p) {L e : Nat} (ht : E.ty t = .arr L e) (hne : isNo (E.ty e) = false) (h0 : 0 ≤ n) (h1 : n < (L : Int)) : Ops E s N a w ι St b o [] (.ptr m (p ++ [.idx n.toNat (E.sz e) L])) := by
  have hv := ev_ok ok R 0 i
  rw [hi] at hv
  have hv := RV.int_inv hv
  have hw := ev_ok ok R t x
  rw [hx] at hw
  obtain ⟨u, B, off, r1, r2, r3, r4⟩ := RV.ptr_inv hw
  refine Ops.pure R (u := .pointer (some ⟨B, off + po p + n.toNat * E.sz e, .none⟩)) ?_ (RT.of_rv (.mk1 ?_ rfl rfl))
  · simp [execOp, ho, hv, r4, indexAt_arr ok ht (fun e => by rw [e] at hne; simp [isNo] at hne) B _ k n h0 h1]
  · have : off + po p + n.toNat * E.sz e = off + po (p ++ [.idx n.toNat (E.sz e) L]) := by simp [po, po_append]; omega
    rw [this]
    exact .ptr r1 r2 ((vp_append _ _ _).2 ⟨r3, by omega, trivial⟩) .nil

theorem op_index_rparr (ok : EnvOk2 E) (R : Rel E s N a.tmps w ι St) (t : TypeId) (x i : Operand) (ho : o.op = .indexAddr t x i) {k : IntKind} {n : Int} (hi : s.ev E 0 i = .int k n) {g : Bool} {c j : Nat} {l : List (U c)} {p : List Step}
    (hx : s.ev E t x = .rp g c l j p) {L e : Nat} (ht : E.ty t = .arr L e) (hne : isNo (E.ty e) = false) (h0 : 0 ≤ n) (h1 : n < (L : Int)) : Ops E s N a w ι St b o [] (.rp g c l j (p ++ [.idx n.toNat (E.sz e) L])) := by
  have hv := ev_ok ok R 0 i
  rw [hi] at hv
  have hv := RV.int_inv hv
  have hw := ev_ok ok R t x
  rw [hx] at hw
  obtain ⟨ds, B, off, r1, r2, r3, r4, r5, r6⟩ := RV.rp_inv hw
  refine Ops.pure R (u := .pointer (some ⟨B, off + (j * E.sz c + po p) + n.toNat * E.sz e, .none⟩)) ?_ (RT.of_rv (.mk1 ?_ rfl rfl))
  · simp [execOp, ho, hv, r6, indexAt_arr ok ht (fun e => by rw [e] at hne; simp [isNo] at hne) B _ k n h0 h1]
  · have : off + (j * E.sz c + po p) + n.toNat * E.sz e = off + (j * E.sz c + po (p ++ [.idx n.toNat (E.sz e) L])) := by simp [po, po_append]; omega
    rw [this]
    exact .rp r1 r2 r3 r4 ((vp_append _ _ _).2 ⟨r5, by omega, trivial⟩) .nil

-- values of structs and arrays
theorem part_run (ok : EnvOk2 E) {t : TypeId} {v : A U} {cs : Array Value} {off : Nat} (hf : fits E t v = true) (h : RC E w St ι [v] ((cs.toList.drop off).take (size E.sz v)) []) :
    ∃ x, (part t cs off).run E.P w = .ok x w ∧ RV E w St ι v x := by
  obtain ⟨h1, h2, h3, h4⟩ := fits_iff hf
  obtain ⟨i, hi, hs, -⟩ := ok.info t h4
  obtain ⟨d, hd, hrow⟩ := ok.agg t h4
  have hl := h.length ok.toEnvOk
  simp only [sizes, Nat.add_zero] at hl
  cases ha : isAgg v with
  | true =>
    have hagg : (Go.isAgg t).run E.P w = .ok true w := by
      unfold Go.isAgg
      rw [Sem.run_bind, run_underlying hd w]
      rw [← h3, ha] at hrow
      cases d <;> simp_all
    refine ⟨.agg (cs.extract off (off + E.sz t)), ?_, ?_, by rw [ha]; rfl⟩
    · simp [part, hagg, sizeOf, typeInfo, hi, hs]
    · show RC E w St ι [v] (cs.extract off (off + E.sz t)).toList []
      rw [Array.toList_extract, List.extract_eq_take_drop, ← h2, Nat.add_sub_cancel_left]
      exact h
  | false =>
    have hs1 : size E.sz v = 1 := by cases v <;> first | rfl | simp [isAgg] at ha
    rw [hs1] at hl h
    have hagg : (Go.isAgg t).run E.P w = .ok false w := by
      unfold Go.isAgg
      rw [Sem.run_bind, run_underlying hd w]
      rw [← h3, ha] at hrow
      cases d <;> simp_all
    have hx : ∃ x, cs[off]? = some x ∧ (cs.toList.drop off).take 1 = [x] := by
      cases hc : cs.toList.drop off with
      | nil => rw [hc] at hl; simp at hl
      | cons x r =>
        refine ⟨x, ?_, by simp⟩
        have := congrArg (·[0]?) hc
        simp only [List.getElem?_drop, Nat.add_zero, List.getElem?_cons_zero] at this
        simpa using this
    obtain ⟨x, hx1, hx2⟩ := hx
    rw [hx2] at h
    have hx3 := oneCell_agg (h.oneCell x (by simp))
    exact ⟨x, by simp [part, hagg, hx1], .mk1 h ha hx3⟩

theorem op_field (ok : EnvOk2 E) (R : Rel E s N a.tmps w ι St) (t : TypeId) (x : Operand) (k : Nat) (ho : o.op = .field t x k) {l : List (A U)} (hx : s.ev E 0 x = .agg l) {fs : List (TypeId × Nat)} {f : TypeId × Nat}
    (ht : E.ty t = .st fs) (hk : fieldAt fs k = some f) (hz : (Nat.beq (sizes E.sz (l.take k)) f.2 && fits E f.1 (nth l k)) = true) : Ops E s N a w ι St b o [] (nth l k) := by
  have h := ev_ok ok R 0 x
  rw [hx] at h
  obtain ⟨cs, h1, h2⟩ := RV.agg_inv h
  simp only [Bool.and_eq_true] at hz
  have hoff := Nat.eq_of_beq_eq_true hz.1
  have hkl : k < l.length := by
    rcases Nat.lt_or_ge k l.length with h | h
    · exact h
    · have := (fits_iff hz.2).1; rw [known_nth h] at this; simp [known] at this
  obtain ⟨q1, -⟩ := h2.part ok.toEnvOk hkl
  rw [hoff] at q1
  obtain ⟨y, r1, r2⟩ := part_run ok hz.2 q1
  obtain ⟨fields, f1, f2⟩ := under_st ok ht
  obtain ⟨g, f3, rfl⟩ := field_of f2 hk
  exact Ops.pure R (u := y) (by simp [execOp, ho, h1, Instr.field, run_underlying f1, f3, asAgg, r1]) (RT.of_rv r2)

theorem op_index_val (ok : EnvOk2 E) (R : Rel E s N a.tmps w ι St) (t : TypeId) (x i : Operand) (ho : o.op = .index t x i) {k : IntKind} {n : Int} (hi : s.ev E 0 i = .int k n) {c M : Nat} {l : List (U c)}
    (hx : s.ev E t x = .arr c M l) (ht : E.ty t = .arr M c) (hf : fits E c (E.enc c (l.getD n.toNat (E.dflt c))) = true) (h0 : 0 ≤ n) (h1 : n < (M : Int)) : Ops E s N a w ι St b o [] (E.enc c (l.getD n.toNat (E.dflt c))) := by
  have hv := ev_ok ok R 0 i
  rw [hi] at hv
  have hv := RV.int_inv hv
  have h := ev_ok ok R t x
  rw [hx] at h
  obtain ⟨cs, q1, q2, q3⟩ := RV.arr_inv h
  obtain ⟨r1, -⟩ := q3.elem ok.toEnvOk (i := n.toNat) (by omega)
  have hsz := ok.encSize c (l.getD n.toNat (E.dflt c))
  rw [← hsz] at r1
  obtain ⟨y, p1, p2⟩ := part_run ok hf r1
  obtain ⟨j, hj, hs, -⟩ := ok.info c (fits_iff hf).2.2.2
  rw [hsz] at p1
  exact Ops.pure R (u := y) (by simp [execOp, ho, hv, q1, Instr.index, asIntOf, run_underlying (under_arr ok ht), h0, h1, sizeOf, typeInfo, hj, hs, p1]) (RT.of_rv p2)

theorem op_index_str (ok : EnvOk2 E) (R : Rel E s N a.tmps w ι St) (t : TypeId) (x i : Operand) (ho : o.op = .index t x i) {k : IntKind} {n : Int} (hi : s.ev E 0 i = .int k n) {g : ByteArray}
    (hx : s.ev E t x = .str g) (ht : E.ty t = .str) (h0 : 0 ≤ n) (h1 : n < (g.size : Int)) : Ops E s N a w ι St b o [] (.int .u8 (bt g n.toNat)) := by
  have hv := ev_ok ok R 0 i
  rw [hi] at hv
  have hv := RV.int_inv hv
  have h := ev_ok ok R t x
  rw [hx] at h
  have h := RV.str_inv h
  have hu : E.P.underlying t = some .string := by have := ok.under t; rw [ht] at this; exact this
  have hlt : n.toNat < g.data.size := by have : g.size = g.data.size := rfl; omega
  have hg : g[n.toNat]? = some g.data[n.toNat] := by
    show g.data[n.toNat]? = _
    simp
  refine Ops.pure R (u := .int .u8 (bt g n.toNat)) ?_ (RT.of_rv (.mk1 (.int .nil) rfl rfl))
  simp [execOp, ho, hv, h, Instr.index, asIntOf, run_underlying hu, h0, hg, bt, Array.getElem?_eq_getElem hlt]
end
end Go.V
