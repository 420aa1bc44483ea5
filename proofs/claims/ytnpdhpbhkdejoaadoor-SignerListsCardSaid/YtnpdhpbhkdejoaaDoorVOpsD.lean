/- V: a string's bytes; the greater and the lesser; what is copied into an array. -/
import Derived.Test.YtnpdhpbhkdejoaaDoorVOpsC
import Derived.Lib.ConvBytes
set_option linter.unusedVariables false
set_option linter.unusedSimpArgs false
namespace Go.V
variable {U : Nat → Type}
section
variable {E : Env U} {w : World} {St : Bool → Nat → Prop} {ι : Nat → Option Value} {s : S U} {N : Nat} {a : Act} {b : Nat} {o : Oper}

theorem rc_ints : ∀ (ns : List Int), RC E w St ι (ns.map (A.int .u8)) (ns.map (Value.int .u8)) []
  | [] => .nil
  | n :: ns => .int (rc_ints ns)

theorem op_str_bytes (ok : EnvOk2 E) (R : Rel E s N a.tmps w ι St) (hb : ι b = none) (hd : isLive (s.h b) = false) (t d : TypeId) (x : Operand) (ho : o.op = .convert t d x) {e : TypeId} (hde : E.ty d = .sl e) (ht : E.ty t = .str) {g : ByteArray} (hx : s.ev E t x = .str g) {l : List (U e)} (hl : E.ofBytes e g = some l) :
    Ops E s N a w ι St b o [(b, .lst e l)] (.own b) := by
  obtain ⟨t3, e1⟩ := ok.ofB _ _ _ hl
  have hu : E.P.underlying t = some .string := by have := ok.under t; rw [ht] at this; exact this
  have hu2 : E.P.underlying e = some (.int .u8) := by have := ok.under e; rw [t3] at this; exact this
  have hv := ev_ok ok R t x
  rw [hx] at hv
  have hv := RV.str_inv hv
  have hrun := Lib.run_convert_string_bytes (P := E.P) w t d e g hu (under_sl ok hde) hu2
  have hlen : l.length = g.size := by
    have := congrArg List.length e1
    simp only [List.length_map, bytesTo, Array.length_toList] at this
    exact this
  have hsz1 : E.sz e = 1 := by
    have hne : E.ty e ≠ .no := by rw [t3]; simp
    obtain ⟨i, z, hi, hz, hzs, hrc⟩ := ok.dfl e hne
    obtain ⟨r, hr, -⟩ := (ok.eqA e (by rw [t3]; rfl)).2 (E.dflt e) (E.dflt e)
    have := ok.encSize e (E.dflt e)
    unfold eqV at hr
    rw [t3] at hr
    revert hr this
    generalize E.enc e (E.dflt e) = p
    intro this hr
    cases p <;> try (simp at hr; done)
    rw [← this]; rfl
  let C := grownCap w g.size 0 e
  have hC : g.size ≤ C := Nat.le_add_right _ _
  have hfr : Fr (fun _ => False) w (Lib.bytesWorld w e g) := ⟨by rw [Lib.bytesWorld_size]; omega, fun B hB _ => Lib.bytesWorld_at_old w e g B hB, rfl, rfl, rfl⟩
  have hx1 := fresh_ext (v := some (.slice (some ⟨w.heap.size, 0, .none⟩) g.size C)) hb hfr R.stb
  refine Ops.fresh R hb hd (ob := .lst e l) (u := .slice (some ⟨w.heap.size, 0, .none⟩) g.size C) (x := .slice (some ⟨w.heap.size, 0, .none⟩) g.size C) (w' := Lib.bytesWorld w e g) ?_ hfr ?_ ?_ ?_
  · simp only [execOp, ho, hv, Sem.run_bind, hrun, Result.andThen_ok]; rfl
  · by_cases h0 : C = 0
    · left; unfold blk; rw [h0, base_zero]; rfl
    · right; exact ⟨w.heap.size, blk_pos (by omega), Nat.le_refl _⟩
  · by_cases h0 : C = 0
    · left
      exact ⟨⟨some ⟨w.heap.size, 0, .none⟩, by rw [h0, show g.size = 0 by omega]⟩, List.eq_nil_of_length_eq_zero (by omega)⟩
    · refine RO.lst_of (B := w.heap.size) (off := 0) (cap := C) (ds := (bytesTo g).map (.int .u8)) (by omega) (by rw [hlen]) ?_ ?_ ?_ (by omega) (by rw [Lib.bytesWorld_size]; omega)
      · rw [e1]; exact rc_ints _
      · intro j v hj
        have hj2 : j < g.size := by
          rcases Nat.lt_or_ge j g.size with h | h
          · exact h
          · rw [List.getElem?_eq_none (by simpa [bytesTo] using h)] at hj; cases hj
        rw [Nat.zero_add, Lib.bytesWorld_cell w e g j hj2, ← hj]
        have hj3 : j < g.data.size := hj2
        rw [List.getElem?_map, bytesTo, List.getElem?_map]
        rw [List.getD, Array.getElem?_toList, Array.getElem?_eq_getElem hj3]
        rfl
      · intro j hj
        rw [hsz1, Nat.mul_one] at hj
        have hz : (Lib.bytesCells w e g).size = C := by
          simp only [Lib.bytesCells, Array.size_append, Array.size_map, Array.size_replicate]
          show g.size + (C - g.size) = C
          omega
        rw [Nat.zero_add]
        constructor
        · simp only [World.cell?, Lib.bytesWorld_at_new]
          simp [hz, hj]
        · simp only [World.frozen?, Lib.bytesWorld_at_new]
          simp [hz]
          omega
  · exact RT.of_rv (.mk1 (.own (upd_same _ _ _) .nil) rfl rfl)

theorem args_int (ok : EnvOk2 E) (R : Rel E s N a.tmps w ι St) (f : Int → Int → Int) (g : Value → Value → Sem Value) (hg : ∀ (k : IntKind) (x y : Int) (k' : IntKind), (g (.int k x) (.int k' y)).run E.P w = .ok (.int k (f x y)) w) (k : IntKind) :
    ∀ (xs : List Operand) (ts : List TypeId) (n m : Int), foldJ f n (evArgs E s xs ts) = some m → ((xs.map a.eval).foldlM g (.int k n)).run E.P w = .ok (.int k m) w
  | [], ts, n, m, h => by
    cases ts <;> (simp only [evArgs, foldJ, Option.some.injEq] at h; subst h; rfl)
  | x :: xs, ts, n, m, h => by
    have key : ∀ t ts', foldJ f n (s.ev E t x :: evArgs E s xs ts') = some m → (((x :: xs).map a.eval).foldlM g (.int k n)).run E.P w = .ok (.int k m) w := by
      intro t ts' h
      have hv := ev_ok ok R t x
      cases hx : s.ev E t x with
      | int k' y =>
        rw [hx] at h hv
        simp only [foldJ] at h
        have hv := RV.int_inv hv
        have ih := args_int ok R f g hg k xs ts' (f n y) m h
        rw [List.map_cons, List.foldlM_cons, hv, Sem.run_bind, hg]
        exact ih
      | _ => rw [hx] at h; simp [foldJ] at h
    cases ts with
    | nil => exact key 0 [] h
    | cons t ts => exact key t ts h
theorem op_fold (ok : EnvOk2 E) (R : Rel E s N a.tmps w ι St) {c : Call} (ho : o.op = .call c) {k : IntKind} {n : Int} (h : c.callee = .builtin .max ∧ foldI maxI (evArgs E s c.args.toList c.argTypes.toList) = some (k, n) ∨ c.callee = .builtin .min ∧ foldI minI (evArgs E s c.args.toList c.argTypes.toList) = some (k, n)) :
    Ops E s N a w ι St b o [] (.int k n) := by
  have key : ∀ (f : Int → Int → Int) (g : Value → Value → Sem Value), (∀ (k : IntKind) (x y : Int) (k' : IntKind), (g (.int k x) (.int k' y)).run E.P w = .ok (.int k (f x y)) w) → foldI f (evArgs E s c.args.toList c.argTypes.toList) = some (k, n) →
      ∃ x xs, c.args.toList = x :: xs ∧ ((xs.map a.eval).foldlM g (a.eval x)).run E.P w = .ok (.int k n) w := by
    intro f g hg hf
    cases hx : c.args.toList with
    | nil => rw [hx] at hf; cases c.argTypes.toList <;> simp [evArgs, foldI] at hf
    | cons x xs =>
      refine ⟨x, xs, rfl, ?_⟩
      have go : ∀ t ts, foldI f (s.ev E t x :: evArgs E s xs ts) = some (k, n) → ((xs.map a.eval).foldlM g (a.eval x)).run E.P w = .ok (.int k n) w := by
        intro t ts hf
        have hv := ev_ok ok R t x
        cases hy : s.ev E t x with
        | int k' y =>
          rw [hy] at hf hv
          simp only [foldI] at hf
          rw [RV.int_inv hv]
          cases hj : foldJ f y (evArgs E s xs ts) with
          | none => rw [hj] at hf; simp at hf
          | some m =>
            rw [hj] at hf
            simp only [Option.some.injEq, Prod.mk.injEq] at hf
            obtain ⟨rfl, rfl⟩ := hf
            exact args_int ok R f g hg k' xs ts y m hj
        | _ => rw [hy] at hf; simp [foldI] at hf
      rw [hx] at hf
      cases hts : c.argTypes.toList with
      | nil => rw [hts] at hf; exact go 0 [] hf
      | cons t ts => rw [hts] at hf; exact go t ts hf
  refine Ops.pure R (u := .int k n) ?_ (RT.of_rv (.mk1 (.int .nil) rfl rfl))
  rcases h with ⟨hc, h⟩ | ⟨hc, h⟩
  · obtain ⟨x, xs, h1, h2⟩ := key maxI Builtin.max2 (fun k x y k' => by
      simp only [Builtin.max2, Sem.run_pure, maxI, Bool.cond_decide]) h
    have h3 : (c.args.map a.eval).toList = a.eval x :: xs.map a.eval := by simp [h1]
    simp only [execOp, ho, resolve, hc, Sem.run_bind, Sem.run_pure, Result.andThen_ok, invoke, builtin, Builtin.max_, h3, h2]
  · obtain ⟨x, xs, h1, h2⟩ := key minI Builtin.min2 (fun k x y k' => by
      simp only [Builtin.min2, Sem.run_pure, minI, Bool.cond_decide]) h
    have h3 : (c.args.map a.eval).toList = a.eval x :: xs.map a.eval := by simp [h1]
    simp only [execOp, ho, resolve, hc, Sem.run_bind, Sem.run_pure, Result.andThen_ok, invoke, builtin, Builtin.min_, h3, h2]

-- what is copied into an array
theorem RC.takeE (ok : EnvOk E) {c : Nat} {l : List (U c)} {ds : List Value} (h : RC E w St ι (l.map (E.enc c)) ds []) (i : Nat) (hi : i ≤ l.length) : RC E w St ι ((l.take i).map (E.enc c)) (ds.take (i * E.sz c)) [] ∧ RC E w St ι ((l.drop i).map (E.enc c)) (ds.drop (i * E.sz c)) [] := by
  have hm := congrArg (List.map (E.enc c)) (List.take_append_drop i l)
  rw [List.map_append] at hm
  rw [← hm] at h
  obtain ⟨c1, c2, b1, b2, rfl, hb, h1, h2⟩ := RC.split h
  obtain ⟨rfl, rfl⟩ := nil_or hb
  have l1 := h1.length ok
  rw [sizes_enc ok, List.length_take, Nat.min_eq_left hi] at l1
  rw [← l1, List.take_left, List.drop_left]
  exact ⟨h1, h2⟩
theorem splice_in (cs news : List Value) (P L0 x : Nat) (h1 : P + L0 ≤ cs.length) (h2 : x + news.length ≤ L0) :
    cs.take P ++ ((((cs.drop P).take L0).take x ++ (news ++ ((cs.drop P).take L0).drop (x + news.length))) ++ cs.drop (P + L0)) = cs.take (P + x) ++ (news ++ cs.drop (P + x + news.length)) := by
  have e1 : ((cs.drop P).take L0).take x = (cs.drop P).take x := by rw [List.take_take, Nat.min_eq_left (by omega)]
  have e2 : ((cs.drop P).take L0).drop (x + news.length) ++ cs.drop (P + L0) = cs.drop (P + x + news.length) := by
    rw [List.drop_take, List.drop_drop, show P + (x + news.length) = P + x + news.length by omega]
    have := List.take_append_drop (L0 - (x + news.length)) (cs.drop (P + x + news.length))
    rw [List.drop_drop, show P + x + news.length + (L0 - (x + news.length)) = P + L0 by omega] at this
    exact this
  rw [e1, List.append_assoc, List.append_assoc, e2, ← List.append_assoc, ← List.take_add]

theorem op_copy (ok : EnvOk2 E) (R : Rel E s N a.tmps w ι St) {c : Call} (hc : c.callee = .builtin .copy) (ho : o.op = .call c) {x y : Operand} {t tx : TypeId} (ha : c.args.toList = [x, y]) (hat : c.argTypes.toList = [t, tx])
    {m : Nat} {p : List Step} {e n i len : Nat} (hx : s.ev E t x = .bsl m p e n i len) (ht : slOf E t e = true) {q : A U} (hm : s.h m = .box q) {l : List (U e)} (hg : getP E q p = .arr e n l) {cq : Cont U} (hcq : content E s.h (s.ev E tx y) = some cq)
    {src : List (U e)} (hsrc : ∃ h : cq.c = e, h ▸ cq.l = src) {q' : A U} (hs : setP E q p (.arr e n (splice l i src (Nat.min src.length len))) = some q') :
    Ops E s N a w ι St b o [(m, .box q')] (.int .i64 ((Nat.min src.length len : Nat) : Int)) := by
  obtain ⟨hce, hcl⟩ := hsrc
  obtain ⟨cr, cc, cl⟩ := cq
  simp only at hce hcl
  subst hce
  simp only at hcl
  subst hcl
  obtain ⟨t1, t2⟩ := slOf_iff ok ht
  obtain ⟨inf, hinf, hsz, -⟩ := ok.info cc t2
  have hv := ev_ok ok R t x
  rw [hx] at hv
  obtain ⟨B, a', cap, r1, r2, r3, r4, r5, r6, r7⟩ := RV.bsl_inv hv
  have h0 := R.obj m
  rw [hm] at h0
  obtain ⟨B', cs, g1, g2, g3, g4, g5⟩ := h0
  rw [r1] at g1
  simp only [Option.some.injEq, Value.pointer.injEq, Addr.mk.injEq, and_true] at g1
  subst g1
  obtain ⟨p1, p2⟩ := g2.getP ok.toEnvOk p r6 (by rw [hg]; rfl)
  rw [hg] at p1 p2
  obtain ⟨p3, p4, -⟩ := p1.arr_inv
  obtain ⟨as, scap, q1, q2⟩ := content_at ok R (ev_ok ok R tx y) hcq
  simp only at q1 q2
  let k := Nat.min cl.length len
  have hk1 : k ≤ cl.length := Nat.min_le_left _ _
  have hk2 : k ≤ len := Nat.min_le_right _ _
  -- what is read
  have read : ∃ news, (Builtin.firstCells inf.size k (.slice as cl.length scap)).run E.P w = .ok news.toArray w ∧ RC E w St ι ((cl.take k).map (E.enc cc)) news [] ∧ (∀ v ∈ news, v.oneCell' = true) := by
    rcases q2 with h | ⟨B2, off, ds, rfl, h1, h2⟩
    · subst h
      have hk0 : k = 0 := by simp only [List.length_nil] at hk1; omega
      refine ⟨[], ?_, by rw [hk0]; exact .nil, by simp⟩
      cases as with
      | none => rfl
      | some z =>
        have := run_loadCells_list (P := E.P) w z [] (by simp)
        rw [hk0]
        simpa [Builtin.firstCells] using this
    · obtain ⟨d1, -⟩ := h1.takeE ok.toEnvOk k hk1
      refine ⟨_, ?_, d1, d1.oneCell⟩
      have hl := d1.length ok.toEnvOk
      rw [sizes_enc ok.toEnvOk, List.length_take (l := cl), Nat.min_eq_left hk1] at hl
      have := run_loadCells_list (P := E.P) w ⟨B2, off, .none⟩ (ds.take (k * E.sz cc)) (fun j v hj => by
        rw [Addr.add_eq]
        refine h2 j v ?_
        rw [List.getElem?_take] at hj
        split at hj
        · exact hj
        · cases hj)
      simp only [Builtin.firstCells, hsz]
      rw [hl] at this
      exact this
  obtain ⟨news, n1, n2, n3⟩ := read
  have hnl := n2.length ok.toEnvOk
  rw [sizes_enc ok.toEnvOk, List.length_take (l := cl), Nat.min_eq_left hk1] at hnl
  -- the array's cells
  have hL0 : ((cs.drop (po p)).take (size E.sz (.arr cc n l : A U))).length = n * E.sz cc := by
    have := p4.length ok.toEnvOk
    rw [sizes_enc ok.toEnvOk, p3] at this
    exact this
  have hle : po p + n * E.sz cc ≤ cs.length := p2
  have hkn : i * E.sz cc + news.length ≤ n * E.sz cc := by
    rw [hnl, ← Nat.add_mul]
    exact Nat.mul_le_mul_right _ (by omega)
  have hnew : RC E w St ι [(.arr cc n (splice l i cl k) : A U)] (((cs.drop (po p)).take (n * E.sz cc)).take (i * E.sz cc) ++ (news ++ ((cs.drop (po p)).take (n * E.sz cc)).drop (i * E.sz cc + news.length))) [] := by
    have h1 := (p4.takeE ok.toEnvOk i (by omega)).1
    have h2 := (p4.takeE ok.toEnvOk (i + k) (by omega)).2
    have : RC E w St ι ((splice l i cl k).map (E.enc cc)) (((cs.drop (po p)).take (n * E.sz cc)).take (i * E.sz cc) ++ (news ++ ((cs.drop (po p)).take (n * E.sz cc)).drop (i * E.sz cc + news.length))) [] := by
      simp only [splice, List.map_append]
      refine RC.append (bs := []) (bs' := []) h1 (RC.append (bs := []) (bs' := []) n2 ?_)
      rw [hnl, ← Nat.add_mul]
      exact h2
    have hlen : (splice l i cl k).length = n := by
      simp only [splice, List.length_append, List.length_take, List.length_drop, Nat.min_eq_left hk1]
      omega
    simpa using RC.arr hlen this .nil
  obtain ⟨s1, s2, s3, s4, s5⟩ := g2.setP ok.toEnvOk p r6 hs hnew
  have hdl : (((cs.drop (po p)).take (n * E.sz cc)).take (i * E.sz cc) ++ (news ++ ((cs.drop (po p)).take (n * E.sz cc)).drop (i * E.sz cc + news.length))).length = n * E.sz cc := by
    have hh := hL0
    simp only [size] at hh
    simp only [List.length_append, List.length_take, List.length_drop] at hh ⊢
    omega
  rw [hdl, splice_in cs news (po p) (n * E.sz cc) (i * E.sz cc) hle hkn] at s1
  have hrun : (Builtin.copy_ #[t, tx] o.type #[a.eval x, a.eval y]).run E.P w = .ok (goInt k) (w.setCells B (po p + i * E.sz cc) news) := by
    rw [r7, q1]
    have hst : (match a' with | some z => storeCells z news.toArray.toList | none => pure ()).run E.P w = .ok () (w.setCells B (po p + i * E.sz cc) news) := by
      by_cases h0 : news = []
      · subst h0
        cases a' <;> rfl
      · have hk0 : 0 < k := by
          rcases Nat.eq_zero_or_pos k with h | h
          · rw [h] at hnl
            exact absurd (List.eq_nil_of_length_eq_zero (by rw [hnl]; simp)) h0
          · exact h
        have ha := r5.resolve_left (by omega)
        subst ha
        have := run_storeCells_cells (P := E.P) B (po p + i * E.sz cc) news 0 w
          (fun j hj => by have := (g4 (po p + i * E.sz cc + j) (by omega)).1; simpa using this)
          (fun j hj => by have := (g4 (po p + i * E.sz cc + j) (by omega)).2; simpa using this) n3
        simpa using this
    have hk : Nat.min cl.length len = k := rfl
    cases ha' : a' with
    | none =>
      rw [ha'] at hst
      have hst : w = w.setCells B (po p + i * E.sz cc) news := by
        have : (Result.ok () w : Result Unit) = .ok () (w.setCells B (po p + i * E.sz cc) news) := hst
        simpa using this
      simp [Builtin.copy_, run_underlying (under_sl ok t1), Builtin.lenOf, sizeOf, typeInfo, hinf, n1, hk]
      exact hst
    | some z =>
      rw [ha'] at hst
      simp only [] at hst
      simp [Builtin.copy_, run_underlying (under_sl ok t1), Builtin.lenOf, sizeOf, typeInfo, hinf, n1, hst, hk]
  refine Ops.store R hm r1 (off := po p + i * E.sz cc) (ds := news) (nx := .value (goInt k)) (u := goInt k) ?_ (.inl rfl) g5 s1 ?_ ?_ (fun _ _ => RT.of_rv (.mk1 (.int .nil) rfl rfl))
  · have h1 : c.args = #[x, y] := Array.ext' (by simpa using ha)
    have h2 : c.argTypes = #[t, tx] := Array.ext' (by simpa using hat)
    simp only [execOp, ho, resolve, hc, Sem.run_bind, Sem.run_pure, Result.andThen_ok, invoke, builtin, h1, h2]
    simp [hrun]
  · have := range_splice (w := w) (B := B) (off := 0) (k := po p + i * E.sz cc) g3 (ds := news) (by omega)
    simpa using this
  · have hlen : (cs.take (po p + i * E.sz cc) ++ (news ++ cs.drop (po p + i * E.sz cc + news.length))).length = cs.length := by
      simp only [List.length_append, List.length_take, List.length_drop]; omega
    rw [hlen]
    exact there_setCells g4

-- a slice of a slice of one's own
theorem slice_run' (ok : EnvOk2 E) {t e : TypeId} (ht : E.ty t = .sl e) (hne : E.ty e ≠ .no) (a' : Option Addr) (n cap : Nat) (lo hi : Option Value) (l h : Int)
    (hl : lo = none ∧ l = 0 ∨ ∃ k, lo = some (.int k l)) (hh : hi = none ∧ h = n ∨ ∃ k, hi = some (.int k h)) (h0 : 0 ≤ l) (h1 : l ≤ h) (h2 : h ≤ n) (hc : n ≤ cap) :
    (Instr.sliceAt t (.slice a' n cap) lo hi none).run E.P w = .ok (.slice (if cap = l.toNat then a' else a'.map (·.add (l.toNat * E.sz e))) (h.toNat - l.toNat) (cap - l.toNat)) w := by
  obtain ⟨i, hi', hs, -⟩ := ok.info e hne
  have hb := bounds_run (E := E) (w := w) true n cap lo hi l h hl hh h0 h1 h2 hc
  simp [Instr.sliceAt, Instr.slice, run_underlying (under_sl ok ht), hb, sizeOf, typeInfo, hi', hs]
theorem op_slice_own (ok : EnvOk2 E) (R : Rel E s N a.tmps w ι St) (t : TypeId) (x : Operand) (lo hi : Option Operand) (ho : o.op = .slice t x lo hi none) {m c : Nat} {l : List (U c)} (hx : s.ev E t x = .own m) (hm : s.h m = .lst c l ∨ s.h m = .fz c l) (ht : slOf E t c = true)
    {i j : Int} (h1 : optI 0 (lo.map (s.ev E 0)) = some i) (h2 : optI (l.length : Int) (hi.map (s.ev E 0)) = some j) (b0 : 0 ≤ i) (b1 : i ≤ j) (b2 : j ≤ (l.length : Int)) :
    Ops E s N a w ι St b o [] (.sub m c i.toNat (j - i).toNat) := by
  obtain ⟨t1, t2⟩ := slOf_iff ok ht
  have hv := ev_ok ok R t x
  rw [hx] at hv
  obtain ⟨a', L, C, q1, q2⟩ := RV.own_inv hv
  obtain ⟨rfl, q3⟩ := R.own_at hm q2
  have hle : l.length ≤ C := by
    rcases q3 with rfl | ⟨_, _, _, _, _, _, h⟩
    · exact Nat.zero_le _
    · exact h
  have hrun := slice_run' (w := w) ok t1 t2 a' l.length C (lo.map a.eval) (hi.map a.eval) i j (optI_ok ok R 0 lo h1) (optI_ok ok R _ hi h2) b0 b1 b2 hle
  refine Ops.pure R (u := _) (by simp only [execOp, ho, q1, Option.map_none]; rw [Sem.run_bind, hrun]; rfl) (RT.of_rv (.mk1 ?_ rfl rfl))
  rw [show j.toNat - i.toNat = (j - i).toNat by omega]
  refine .sub q2 (by omega) (by omega) (by omega) ?_ .nil
  by_cases h : C = i.toNat
  · exact .inl (by omega)
  · rw [if_neg h]; exact .inr rfl
theorem op_slice_sub (ok : EnvOk2 E) (R : Rel E s N a.tmps w ι St) (t : TypeId) (x : Operand) (lo hi : Option Operand) (ho : o.op = .slice t x lo hi none) {m c k len : Nat} {l : List (U c)} (hx : s.ev E t x = .sub m c k len) (hm : s.h m = .lst c l) (ht : slOf E t c = true)
    {i j : Int} (h1 : optI 0 (lo.map (s.ev E 0)) = some i) (h2 : optI (len : Int) (hi.map (s.ev E 0)) = some j) (b0 : 0 ≤ i) (b1 : i ≤ j) (b2 : j ≤ (len : Int)) :
    Ops E s N a w ι St b o [] (.sub m c (k + i.toNat) (j - i).toNat) := by
  obtain ⟨t1, t2⟩ := slOf_iff ok ht
  have hv := ev_ok ok R t x
  rw [hx] at hv
  obtain ⟨a0, a', L, C, cap, q1, q2, q3, q4, q5, q6⟩ := RV.sub_inv hv
  have hrun := slice_run' (w := w) ok t1 t2 a' len cap (lo.map a.eval) (hi.map a.eval) i j (optI_ok ok R 0 lo h1) (optI_ok ok R _ hi h2) b0 b1 b2 q3
  refine Ops.pure R (u := _) (by simp only [execOp, ho, q6, Option.map_none]; rw [Sem.run_bind, hrun]; rfl) (RT.of_rv (.mk1 ?_ rfl rfl))
  rw [show j.toNat - i.toNat = (j - i).toNat by omega]
  refine .sub q1 (by omega) (by omega) (by omega) ?_ .nil
  by_cases h : cap = i.toNat
  · exact .inl (by omega)
  · rw [if_neg h]
    have hcap : cap ≠ 0 := fun e => by omega
    have e1 := q5.resolve_left hcap
    have h0 := R.obj m
    rw [hm] at h0
    rcases h0 with ⟨⟨z, hz⟩, -⟩ | ⟨B, off, C', ds, hz, -⟩
    · rw [q1] at hz
      simp only [Option.some.injEq, Value.slice.injEq] at hz
      omega
    · rw [q1] at hz
      simp only [Option.some.injEq, Value.slice.injEq] at hz
      obtain ⟨rfl, -, -⟩ := hz
      right
      rw [e1]
      simp only [Option.map_some, Addr.add_eq, Option.some.injEq, Addr.mk.injEq, true_and, and_true]
      rw [Nat.add_mul]
      omega
end
end Go.V
