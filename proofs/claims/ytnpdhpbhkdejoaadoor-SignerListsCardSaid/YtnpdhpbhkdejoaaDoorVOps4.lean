/- V, eighth part: stores, what is built. -/
import Derived.Test.YtnpdhpbhkdejoaaDoorVOps3
set_option linter.unusedVariables false
set_option linter.unusedSimpArgs false
namespace Go.V
variable {U : Nat → Type}
section
variable {E : Env U} {w : World} {St : Bool → Nat → Prop} {ι : Nat → Option Value} {s : S U} {N : Nat} {a : Act} {b : Nat} {o : Oper}

/-- a row, a piece of which is written anew -/
theorem range_splice {B off k : Nat} {cs ds : List Value} (h : w.rangeAt B off cs) (hk : k + ds.length ≤ cs.length) : (w.setCells B (off + k) ds).rangeAt B off (cs.take k ++ (ds ++ cs.drop (k + ds.length))) := by
  intro j v hj
  have hsome : ∀ i, i < ds.length → (w.cell? ⟨B, off + k + i, .none⟩).isSome = true := by
    intro i hi
    have : cs[k + i]? = some cs[k + i] := List.getElem?_eq_getElem (by omega)
    have := h _ _ this
    rw [show off + k + i = off + (k + i) by omega, this]; rfl
  by_cases h1 : j < k
  · rw [List.getElem?_append_left (by simp; omega), List.getElem?_take_of_lt h1] at hj
    rw [World.cell?_setCells_out _ _ _ _ _ (fun _ _ => .inl (by simp; omega))]
    exact h j v hj
  · rw [List.getElem?_append_right (by simp; omega), List.length_take, Nat.min_eq_left (by omega)] at hj
    by_cases h2 : j - k < ds.length
    · rw [List.getElem?_append_left h2, List.getElem?_eq_getElem h2] at hj
      have := World.cell?_setCells_in B ds (off + k) w hsome (j - k) h2
      rw [show off + k + (j - k) = off + j by omega] at this
      rw [this]; exact hj
    · rw [List.getElem?_append_right (by omega), List.getElem?_drop] at hj
      rw [World.cell?_setCells_out _ _ _ _ _ (fun _ _ => .inr (by simp; omega))]
      have : k + ds.length + (j - k - ds.length) = j := by omega
      rw [this] at hj
      exact h j v hj

theorem isSome_setCell (w : World) (x y : Addr) (v : Value) : ((w.setCell x v).cell? y).isSome = (w.cell? y).isSome := by
  by_cases h : x = y
  · subst h
    cases hc : w.cell? x with
    | some u => rw [World.cell?_setCell_same _ _ _ hc]; rfl
    | none =>
      cases hd : (w.setCell x v).cell? x with
      | none => rfl
      | some u =>
        exfalso
        simp only [World.setCell, World.cell?, Array.getElem?_modify, ↓reduceIte] at hc hd
        cases hb : w.heap[x.block]? with
        | none => rw [hb] at hd; simp at hd
        | some ob =>
          rw [hb] at hd hc
          cases ob <;> simp at hd hc
          rename_i c t f
          obtain ⟨h1, h2⟩ := hd
          have h3 := hc h1
          rw [if_neg (by simp [h1]), Array.getElem?_eq_none (by simpa using h3)] at h2
          simp at h2
  · rw [World.cell?_setCell_other _ _ _ _ h]
theorem isSome_setCells (B : Nat) : ∀ (vs : List Value) (o : Nat) (w : World) (y : Addr), ((w.setCells B o vs).cell? y).isSome = (w.cell? y).isSome
  | [], _, _, _ => rfl
  | v :: r, o, w, y => by rw [World.setCells, isSome_setCells B r, isSome_setCell]
theorem there_setCells {B B' off o n : Nat} {ds : List Value} (h : w.there B off n) : (w.setCells B' o ds).there B off n := fun j hj =>
  ⟨by rw [isSome_setCells]; exact (h j hj).1, by rw [World.frozen?_setCells]; exact (h j hj).2⟩

/-- a variable is written -/
theorem store_run (ok : EnvOk2 E) {t : TypeId} {v : A U} {x : Value} {B off k : Nat} (hf : fits E t v = true) (h : RV E w St ι v x) (hT : w.there B off k) {i : Nat} (hi : i + x.cells.toList.length ≤ k) :
    (Instr.storeAt t (.pointer (some ⟨B, off + i, .none⟩)) x).run E.P w = .ok () (w.setCells B (off + i) x.cells.toList) := by
  obtain ⟨h1, h2, h3, h4⟩ := fits_iff hf
  obtain ⟨inf, hinf, hs, -⟩ := ok.info t h4
  have hl := h.1.length ok.toEnvOk
  simp only [sizes, Nat.add_zero] at hl
  have hst := run_storeCells_cells (P := E.P) B (off + i) x.cells.toList 0 w
    (fun j hj => by have := (hT (i + j) (by omega)).1; rwa [show off + i + 0 + j = off + (i + j) by omega])
    (fun j hj => by have := (hT (i + j) (by omega)).2; rwa [show off + i + 0 + j = off + (i + j) by omega]) (fun v hv => h.1.oneCell v hv)
  simp only [Nat.add_zero] at hst
  have hsz : x.cells.size = inf.size := by rw [hs, ← h2, ← hl]; simp
  simp [Instr.storeAt, Instr.sureAddr, storeVar, sizeOf, typeInfo, hinf, hsz, hst]

theorem op_store_box (ok : EnvOk2 E) (R : Rel E s N a.tmps w ι St) (t : TypeId) (x y : Operand) (ho : o.op = .store t x y) {n : Nat} {p : List Step} (hx : s.ev E 0 x = .ptr n p) {q q' : A U} (hn : s.h n = .box q)
    (hf : fits E t (s.ev E t y) = true) (hp : setP E q p (s.ev E t y) = some q') : Ops E s N a w ι St b o [(n, .box q')] .none := by
  have h1 := ev_ok ok R 0 x
  rw [hx] at h1
  obtain ⟨u, B, off, q1, q2, q3, q4⟩ := RV.ptr_inv h1
  have h2 := (ev_ok ok R t y).rv (fits_iff hf).1
  have h0 := R.obj n
  rw [hn] at h0
  obtain ⟨B', cs, r1, r2, r3, r4, r5⟩ := h0
  rw [q1] at r1
  simp only [Option.some.injEq] at r1
  subst r1
  simp only [base, Option.some.injEq, Prod.mk.injEq] at q2
  obtain ⟨rfl, rfl⟩ := q2
  obtain ⟨p1, p2, p3, p4, p5⟩ := r2.setP ok.toEnvOk p q3 hp h2.1
  have hrun := store_run ok hf h2 r4 p2
  rw [Nat.zero_add] at hrun q4
  refine Ops.store R hn q1 (off := po p) (ds := (a.eval y).cells.toList) (nx := .skip) (u := undef) ?_ (.inr ⟨rfl, rfl⟩) r5 p1 ?_ ?_ (fun _ _ => trivial)
  · simp [execOp, ho, q4, hrun]
  · have := range_splice (w := w) (B := B') (off := 0) (k := po p) r3 p2
    simpa using this
  · have hlen : (cs.take (po p) ++ ((a.eval y).cells.toList ++ cs.drop (po p + (a.eval y).cells.toList.length))).length = cs.length := by
      simp only [List.length_append, List.length_take, List.length_drop]; omega
    rw [hlen]
    exact there_setCells r4

-- functions
theorem op_makeFunc (ok : EnvOk2 E) (R : Rel E s N a.tmps w ι St) (f : FuncId) (first caps : Array Operand) (ho : o.op = .makeFunc (.func f) first caps) (hf : first.isEmpty = true)
    (hk : ∀ x ∈ caps.toList, known (s.ev E 0 x) = true) : Ops E s N a w ι St b o [] (.clo f (caps.toList.map fun x => s.ev E 0 x)) := by
  have h1 : first.map a.eval = #[] := by have : first = #[] := by simpa using hf
                                         subst this; simp
  have key : ∀ l : List Operand, (∀ x ∈ l, known (s.ev E 0 x) = true) → RC E w St ι (l.map fun x => s.ev E 0 x) ((l.map fun x => (a.eval x).cells.toList).flatten) [] ∧
      l.map (fun x => ((a.eval x).cells.size, isAggV (a.eval x))) = l.map (fun x => (size E.sz (s.ev E 0 x), Go.V.isAgg (s.ev E 0 x))) := by
    intro l
    induction l with
    | nil => intro _; exact ⟨.nil, rfl⟩
    | cons x l ih =>
      intro hl
      obtain ⟨i1, i2⟩ := ih fun y hy => hl y (List.mem_cons_of_mem _ hy)
      have hx := (ev_ok ok R 0 x).rv (hl x (by simp))
      have hl := hx.1.length ok.toEnvOk
      simp only [sizes, Nat.add_zero] at hl
      refine ⟨by simpa using RC.cons hx.1 i1, ?_⟩
      simp only [List.map_cons, i2, hx.2]
      rw [← hl]; simp
  obtain ⟨k1, k2⟩ := key caps.toList hk
  refine Ops.pure R (u := .func (.func f) #[] (caps.map a.eval)) (by simp [execOp, ho, Instr.makeFunc, h1]) (RT.of_rv (.mk1 (.clo ?_ ?_ .nil) rfl rfl))
  · simpa [List.map_map, Function.comp_def] using k1
  · simpa [List.map_map, Function.comp_def] using k2

-- what is filled in
theorem fold_set (vs : List Value) : ∀ (k i : Nat) (cs : Array Value), k + i + vs.length ≤ cs.size →
    ((vs.zipIdx i).foldl (fun (cs : Array Value) (x : Value × Nat) => cs.setIfInBounds (k + x.2) x.1) cs).toList = cs.toList.take (k + i) ++ (vs ++ cs.toList.drop (k + i + vs.length)) := by
  induction vs with
  | nil => intro k i cs h; simp
  | cons v vs ih =>
    intro k i cs h
    simp only [List.zipIdx_cons, List.foldl_cons]
    rw [ih k (i + 1) _ (by simp at h ⊢; omega)]
    simp only [List.length_cons] at h
    have hlt : k + i < cs.toList.length := by simp; omega
    simp only [Array.toList_setIfInBounds, List.length_cons]
    rw [set_cut _ _ _ hlt, show k + (i + 1) = k + i + 1 by omega, List.take_append, List.take_of_length_le (by simp; omega), List.length_take, Nat.min_eq_left (by omega)]
    rw [show k + i + 1 - (k + i) = 1 by omega, List.take_succ_cons, List.take_zero, List.append_assoc]
    simp only [List.cons_append, List.nil_append]
    congr 2
    rw [List.drop_append, List.drop_of_length_le (by simp; omega), List.nil_append, List.length_take, Nat.min_eq_left (by omega)]
    rw [show k + i + 1 + vs.length - (k + i) = vs.length + 1 by omega, List.drop_succ_cons, List.drop_drop]
    congr 2
    omega

theorem fill_step {place : Nat → Option (Nat × Nat)} {cs : Array Value} {i off size : Nat} {v : Value} {rest : List (Nat × Value)} (hp : place i = some (off, size)) (hs : v.cells.size = size) (hl : off + size ≤ cs.size) :
    ∃ cs' : Array Value, Instr.fill place cs ((i, v) :: rest) = Instr.fill place cs' rest ∧ cs'.toList = cs.toList.take off ++ (v.cells.toList ++ cs.toList.drop (off + v.cells.toList.length)) := by
  refine ⟨v.cells.zipIdx.foldl (fun cs (c, j) => cs.setIfInBounds (off + j) c) cs, ?_, ?_⟩
  · have h1 : ¬ (cs.size < off + v.cells.size) := by omega
    simp only [Instr.fill, hp]
    rw [if_neg]
    simp [hs]; omega
  · have := fold_set v.cells.toList off 0 cs (by simp; omega)
    simp only [Nat.add_zero] at this
    rw [← this, ← Array.foldl_toList]
    simp

/-- parts laid into a row of values: the way the model does it -/
theorem fill_parts (ok : EnvOk2 E) (place : Nat → Option (Nat × Nat)) : ∀ (ps : List (Nat × A U)) (vs : List (Nat × Value)) (l l' : List (A U)) (cs : Array Value), RC E w St ι l cs.toList [] →
    setParts E l ps = some l' → ps.length = vs.length → (∀ (i k : Nat) (x : A U) (k' : Nat) (v : Value), ps[i]? = some (k, x) → vs[i]? = some (k', v) → k' = k ∧ RT E w St ι x v) →
    (∀ k, k < l.length → place k = some (sizes E.sz (l.take k), size E.sz (nth l k))) →
    ∃ cs' : Array Value, Instr.fill place cs vs = some cs' ∧ RC E w St ι l' cs'.toList [] ∧ cs'.size = cs.size
  | [], vs, l, l', cs, h, hs, hlen, _, _ => by
    have : vs = [] := by cases vs with | nil => rfl | cons _ _ => simp at hlen
    subst this
    simp only [setParts, Option.some.injEq] at hs
    subst hs
    exact ⟨cs, rfl, h, rfl⟩
  | (k, x) :: ps, [], l, l', cs, h, hs, hlen, _, _ => by simp at hlen
  | (k, x) :: ps, (k', v) :: vs, l, l', cs, h, hs, hlen, hv, hp => by
    simp only [setParts] at hs
    cases hb : (Nat.blt k l.length && (Nat.beq (size E.sz (nth l k)) (size E.sz x) && (known x && (Go.V.isAgg (nth l k) == Go.V.isAgg x)))) with
    | false => rw [hb] at hs; simp at hs
    | true =>
      rw [hb] at hs
      simp only [cond_true] at hs
      simp only [Bool.and_eq_true] at hb
      obtain ⟨b1, b2, b3, b4⟩ := hb
      have hk : k < l.length := Nat.le_of_ble_eq_true b1
      have hsz := Nat.eq_of_beq_eq_true b2
      obtain ⟨rfl, hx⟩ := hv 0 k x k' v rfl rfl
      have hx := hx.rv b3
      obtain ⟨c1, c2, c3, e, h1, h2, h3, h4⟩ := h.parts ok.toEnvOk hk
      have l2 := h2.length ok.toEnvOk
      have lx := hx.1.length ok.toEnvOk
      simp only [sizes, Nat.add_zero] at l2 lx
      have hcs : cs.size = c1.length + (c2.length + c3.length) := by
        have := congrArg List.length e
        simpa using this
      have hvs : v.cells.size = size E.sz (nth l k') := by rw [hsz, ← lx]; simp
      obtain ⟨cs1, f1, f2⟩ := fill_step (rest := vs) (cs := cs) (v := v) (hp k' hk) hvs (by omega)
      have hx1 : RC E w St ι (l.set k' x) cs1.toList [] := by
        rw [f2, e, ← h4]
        have hcl : v.cells.toList.length = c2.length := by rw [lx, l2, hsz]
        have t1 : (c1 ++ (c2 ++ c3)).take c1.length = c1 := by simp
        have t2 : (c1 ++ (c2 ++ c3)).drop (c1.length + v.cells.toList.length) = c3 := by
          rw [drop_mid (n := c1.length) rfl (by omega), hcl]; simp
        rw [t1, t2, set_cut _ _ _ hk]
        have := RC.append h1 (RC.cons hx.1 h3)
        simpa using this
      have hsize1 : cs1.size = cs.size := by
        have h6 := congrArg List.length f2
        simp only [List.length_append, List.length_take, List.length_drop, Array.length_toList] at h6
        have hcl : v.cells.toList.length = c2.length := by rw [lx, l2, hsz]
        simp only [Array.length_toList] at hcl
        omega
      have hset : ∀ m, m < (l.set k' x).length → place m = some (sizes E.sz ((l.set k' x).take m), size E.sz (nth (l.set k' x) m)) := by
        intro m hm
        have hm' : m < l.length := by simpa using hm
        rw [hp m hm']
        congr 2
        · by_cases hmk : m ≤ k'
          · rw [List.take_set_of_le hmk]
          · have e1 : l.take m = l.take k' ++ nth l k' :: (l.drop (k' + 1)).take (m - (k' + 1)) := by
              have : l = l.take k' ++ nth l k' :: l.drop (k' + 1) := by rw [nth_eq, List.getD, List.getElem?_eq_getElem hk]; simp
              conv => lhs; rw [this]
              rw [List.take_append, List.take_of_length_le (by simp; omega), List.length_take, Nat.min_eq_left (by omega), show m - k' = (m - (k' + 1)) + 1 by omega, List.take_succ_cons]
            have e2 : (l.set k' x).take m = l.take k' ++ x :: (l.drop (k' + 1)).take (m - (k' + 1)) := by
              rw [set_cut _ _ _ hk, List.take_append, List.take_of_length_le (by simp; omega), List.length_take, Nat.min_eq_left (by omega), show m - k' = (m - (k' + 1)) + 1 by omega, List.take_succ_cons]
            rw [e1, e2]
            simp only [sizes_append, sizes, hsz]
        · by_cases hmk : m = k'
          · subst hmk; rw [hsz, nth_eq (l.set m x), List.getD, List.getElem?_set_self hk]; rfl
          · rw [nth_eq, nth_eq, List.getD, List.getD, List.getElem?_set_ne (Ne.symm hmk)]
      obtain ⟨cs', g1, g2, g3⟩ := fill_parts ok place ps vs (l.set k' x) l' cs1 hx1 hs (by simpa using hlen) (fun i k x k' v h1 h2 => hv (i + 1) k x k' v (by simpa using h1) (by simpa using h2)) hset
      exact ⟨cs', by rw [f1]; exact g1, g2, by omega⟩
end
end Go.V
