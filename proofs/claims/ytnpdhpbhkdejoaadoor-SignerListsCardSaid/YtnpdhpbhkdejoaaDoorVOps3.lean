/- V, seventh part: numbers, texts, tuples. -/
import Derived.Test.YtnpdhpbhkdejoaaDoorVOps2
import Derived.Laws.Strings
set_option linter.unusedVariables false
set_option linter.unusedSimpArgs false
namespace Go.V
variable {U : Nat → Type}
section
variable {E : Env U} {w : World} {St : Bool → Nat → Prop} {ι : Nat → Option Value} {s : S U} {N : Nat} {a : Act} {b : Nat} {o : Oper}

theorem op_shift (ok : EnvOk2 E) (R : Rel E s N a.tmps w ι St) (op : BinOp) (t ty : TypeId) (x y : Operand) (ho : o.op = .binOp op t x y ty) {k k' : IntKind} {n m : Int} (hx : s.ev E t x = .int k n) (hy : s.ev E ty y = .int k' m) (h0 : 0 ≤ m)
    {v : A U} (hop : op = .shl ∧ v = .int k (ishl k n m) ∨ op = .shr ∧ v = .int k (ishr k n m)) : Ops E s N a w ι St b o [] v := by
  have h1 := ev_ok ok R t x
  have h2 := ev_ok ok R ty y
  rw [hx] at h1; rw [hy] at h2
  have h1 := RV.int_inv h1
  have h2 := RV.int_inv h2
  have hn : ¬ m < 0 := by omega
  rcases hop with ⟨rfl, rfl⟩ | ⟨rfl, rfl⟩
  · exact Ops.pure R (u := .int k (ishl k n m)) (by simp [execOp, ho, h1, h2, eqGuard, binOp, Op.shift, hn, ishl]) (RT.of_rv (.mk1 (.int .nil) rfl rfl))
  · exact Ops.pure R (u := .int k (ishr k n m)) (by simp [execOp, ho, h1, h2, eqGuard, binOp, Op.shift, hn, ishr]) (RT.of_rv (.mk1 (.int .nil) rfl rfl))

theorem op_int (ok : EnvOk2 E) (R : Rel E s N a.tmps w ι St) (op : BinOp) (t ty : TypeId) (x y : Operand) (ho : o.op = .binOp op t x y ty) {k : IntKind} {n m : Int} (hx : s.ev E t x = .int k n) (hy : s.ev E ty y = .int k m)
    {q : Option Prop} {v : A U} (hop : intOp op k n m = some (q, v)) (hq : ∀ p, q = some p → p) : Ops E s N a w ι St b o [] v := by
  have h1 := ev_ok ok R t x
  have h2 := ev_ok ok R ty y
  rw [hx] at h1; rw [hy] at h2
  have h1 := RV.int_inv h1
  have h2 := RV.int_inv h2
  have hz : (n == m) = decide (n = m) := by by_cases h : n = m <;> simp [h]
  have hz2 : (n != m) = !decide (n = m) := by by_cases h : n = m <;> simp [h]
  cases op <;> simp only [intOp, Option.some.injEq, Prod.mk.injEq, reduceCtorEq] at hop
  all_goals obtain ⟨rfl, rfl⟩ := hop
  case quo => exact Ops.pure R (u := .int k (k.wrap (n.tdiv m))) (by simp [execOp, ho, h1, h2, eqGuard, binOp, Op.intDiv, hq _ rfl]) (RT.of_rv (.mk1 (.int .nil) rfl rfl))
  case rem => exact Ops.pure R (u := .int k (n.tmod m)) (by simp [execOp, ho, h1, h2, eqGuard, binOp, Op.intDiv, hq _ rfl]) (RT.of_rv (.mk1 (.int .nil) rfl rfl))
  case add => exact Ops.pure R (u := .int k (k.wrap (n + m))) (by simp [execOp, ho, h1, h2, eqGuard, binOp, Op.intArith]) (RT.of_rv (.mk1 (.int .nil) rfl rfl))
  case sub => exact Ops.pure R (u := .int k (k.wrap (n - m))) (by simp [execOp, ho, h1, h2, eqGuard, binOp, Op.intArith]) (RT.of_rv (.mk1 (.int .nil) rfl rfl))
  case mul => exact Ops.pure R (u := .int k (k.wrap (n * m))) (by simp [execOp, ho, h1, h2, eqGuard, binOp, Op.intArith]) (RT.of_rv (.mk1 (.int .nil) rfl rfl))
  case and => exact Ops.pure R (u := .int k (iand k n m)) (by simp [execOp, ho, h1, h2, eqGuard, binOp, Op.intBits, iand]) (RT.of_rv (.mk1 (.int .nil) rfl rfl))
  case or => exact Ops.pure R (u := .int k (ior k n m)) (by simp [execOp, ho, h1, h2, eqGuard, binOp, Op.intBits, ior]) (RT.of_rv (.mk1 (.int .nil) rfl rfl))
  case xor => exact Ops.pure R (u := .int k (ixor k n m)) (by simp [execOp, ho, h1, h2, eqGuard, binOp, Op.intBits, ixor]) (RT.of_rv (.mk1 (.int .nil) rfl rfl))
  case andNot => exact Ops.pure R (u := .int k (iandn k n m)) (by simp [execOp, ho, h1, h2, eqGuard, binOp, Op.intBits, iandn]) (RT.of_rv (.mk1 (.int .nil) rfl rfl))
  case eql => exact Ops.pure R (u := .bool (decide (n = m))) (by simp [execOp, ho, h1, h2, eqGuard, binOp, Op.intCmp, hz]) (RT.of_rv (.mk1 (.bool .nil) rfl rfl))
  case neq => exact Ops.pure R (u := .bool (!decide (n = m))) (by simp [execOp, ho, h1, h2, eqGuard, binOp, Op.intCmp, hz2]) (RT.of_rv (.mk1 (.bool .nil) rfl rfl))
  case lss => exact Ops.pure R (u := .bool (decide (n < m))) (by simp [execOp, ho, h1, h2, eqGuard, binOp, Op.intCmp]) (RT.of_rv (.mk1 (.bool .nil) rfl rfl))
  case leq => exact Ops.pure R (u := .bool (decide (n ≤ m))) (by simp [execOp, ho, h1, h2, eqGuard, binOp, Op.intCmp]) (RT.of_rv (.mk1 (.bool .nil) rfl rfl))
  case gtr => exact Ops.pure R (u := .bool (decide (m < n))) (by simp [execOp, ho, h1, h2, eqGuard, binOp, Op.intCmp]) (RT.of_rv (.mk1 (.bool .nil) rfl rfl))
  case geq => exact Ops.pure R (u := .bool (decide (m ≤ n))) (by simp [execOp, ho, h1, h2, eqGuard, binOp, Op.intCmp]) (RT.of_rv (.mk1 (.bool .nil) rfl rfl))

theorem toList_eq_iff (x y : ByteArray) : (x.toList == y.toList) = seq x y := by
  unfold seq
  by_cases h : x = y
  · subst h; simp
  · simp only [h, decide_false]
    cases hb : x.toList == y.toList
    · rfl
    · exfalso
      apply h
      have := eq_of_beq hb
      simp only [ByteArray.toList_eq] at this
      cases x; cases y
      simp_all

theorem op_str (ok : EnvOk2 E) (R : Rel E s N a.tmps w ι St) (op : BinOp) (t ty : TypeId) (x y : Operand) (ho : o.op = .binOp op t x y ty) {n m : ByteArray} (hx : s.ev E t x = .str n) (hy : s.ev E ty y = .str m)
    {q : Option Prop} {v : A U} (hop : strOp op n m = some (q, v)) (hq : ∀ p, q = some p → p) : Ops E s N a w ι St b o [] v := by
  have h1 := ev_ok ok R t x
  have h2 := ev_ok ok R ty y
  rw [hx] at h1; rw [hy] at h2
  have h1 := RV.str_inv h1
  have h2 := RV.str_inv h2
  have hz := toList_eq_iff n m
  cases op <;> simp only [strOp, Option.some.injEq, Prod.mk.injEq, reduceCtorEq] at hop
  all_goals obtain ⟨rfl, rfl⟩ := hop
  case add =>
    have hle := hq _ rfl
    unfold maxStr at hle
    have h3 : ¬ (IntKind.i64.max < (n.size : Int) + (m.size : Int)) := by
      have : IntKind.i64.max = 9223372036854775807 := rfl
      rw [this]; omega
    have h4 : ((n.size : Int) + (m.size : Int)) ≤ 9223372036854775807 := by omega
    exact Ops.pure R (u := .string (n ++ m)) (by simp [execOp, ho, h1, h2, eqGuard, binOp, Op.stringOp, h3]; try omega) (RT.of_rv (.mk1 (.str .nil) rfl rfl))
  case eql => exact Ops.pure R (u := .bool (seq n m)) (by simp [execOp, ho, h1, h2, eqGuard, binOp, Op.stringOp, hz]) (RT.of_rv (.mk1 (.bool .nil) rfl rfl))
  case neq => exact Ops.pure R (u := .bool (!seq n m)) (by simp [execOp, ho, h1, h2, eqGuard, binOp, Op.stringOp, hz]) (RT.of_rv (.mk1 (.bool .nil) rfl rfl))
  case lss => exact Ops.pure R (u := .bool (slt n m)) (by simp [execOp, ho, h1, h2, eqGuard, binOp, Op.stringOp, slt]) (RT.of_rv (.mk1 (.bool .nil) rfl rfl))
  case leq => exact Ops.pure R (u := .bool (slt n m || seq n m)) (by simp [execOp, ho, h1, h2, eqGuard, binOp, Op.stringOp, slt, hz]) (RT.of_rv (.mk1 (.bool .nil) rfl rfl))
  case gtr => exact Ops.pure R (u := .bool (!(slt n m || seq n m))) (by simp [execOp, ho, h1, h2, eqGuard, binOp, Op.stringOp, slt, hz]) (RT.of_rv (.mk1 (.bool .nil) rfl rfl))
  case geq => exact Ops.pure R (u := .bool (!slt n m)) (by simp [execOp, ho, h1, h2, eqGuard, binOp, Op.stringOp, slt]) (RT.of_rv (.mk1 (.bool .nil) rfl rfl))

theorem op_not (ok : EnvOk2 E) (R : Rel E s N a.tmps w ι St) (t : TypeId) (x : Operand) (ho : o.op = .unOp .not t x) {q : Bool} (hx : s.ev E 0 x = .bool q) : Ops E s N a w ι St b o [] (.bool (!q)) := by
  have h1 := ev_ok ok R 0 x
  rw [hx] at h1
  have h1 := RV.bool_inv h1
  exact Ops.pure R (u := .bool (!q)) (by simp [execOp, ho, h1, Op.unary]) (RT.of_rv (.mk1 (.bool .nil) rfl rfl))
theorem op_neg (ok : EnvOk2 E) (R : Rel E s N a.tmps w ι St) (t : TypeId) (x : Operand) (ho : o.op = .unOp .neg t x) {k : IntKind} {n : Int} (hx : s.ev E 0 x = .int k n) : Ops E s N a w ι St b o [] (.int k (k.wrap (0 - n))) := by
  have h1 := ev_ok ok R 0 x
  rw [hx] at h1
  have h1 := RV.int_inv h1
  exact Ops.pure R (u := .int k (k.wrap (0 - n))) (by simp [execOp, ho, h1, Op.unary, Op.intArith]) (RT.of_rv (.mk1 (.int .nil) rfl rfl))
theorem op_xor (ok : EnvOk2 E) (R : Rel E s N a.tmps w ι St) (t : TypeId) (x : Operand) (ho : o.op = .unOp .xor t x) {k : IntKind} {n : Int} (hx : s.ev E 0 x = .int k n) : Ops E s N a w ι St b o [] (.int k (ixor k (cond k.signed (-1) k.max) n)) := by
  have h1 := ev_ok ok R 0 x
  rw [hx] at h1
  have h1 := RV.int_inv h1
  exact Ops.pure R (u := .int k (ixor k (cond k.signed (-1) k.max) n)) (by cases hs : k.signed <;> simp [execOp, ho, h1, Op.unary, Op.intBits, ixor, hs]) (RT.of_rv (.mk1 (.int .nil) rfl rfl))

theorem op_nilCheck (ok : EnvOk2 E) (R : Rel E s N a.tmps w ι St) (x : Operand) (ho : o.op = .nilCheck x) (hx : (∃ n p, s.ev E 0 x = .ptr n p) ∨ (∃ g c l i p, s.ev E 0 x = .rp g c l i p) ∨ (∃ f l, s.ev E 0 x = .clo f l)) :
    Ops E s N a w ι St b o [] (s.ev E 0 x) := by
  have h1 := ev_ok ok R 0 x
  rcases hx with ⟨n, p, hx⟩ | ⟨g, c, l, i, p, hx⟩ | ⟨f, l, hx⟩
  · have h2 := h1
    rw [hx] at h2
    obtain ⟨u, B, off, -, -, -, h3⟩ := RV.ptr_inv h2
    exact Ops.pure R (u := a.eval x) (by simp [execOp, ho, h3]) h1
  · have h2 := h1
    rw [hx] at h2
    obtain ⟨ds, B, off, -, -, -, -, -, h3⟩ := RV.rp_inv h2
    exact Ops.pure R (u := a.eval x) (by simp [execOp, ho, h3]) h1
  · have h2 := h1
    rw [hx] at h2
    obtain ⟨vs, h3, -, -⟩ := RV.clo_inv h2
    exact Ops.pure R (u := a.eval x) (by simp [execOp, ho, h3]) h1

theorem RVs.nth : ∀ {l : List (A U)} {vs : List Value}, RVs E w St ι l vs → ∀ i, i < vs.length → RT E w St ι (nth l i) (vs.getD i undef)
  | [], [], h, i, hi => by simp at hi
  | a :: l, v :: vs, h, 0, hi => by
    simp only [nth, List.getD_cons_zero]
    rcases h.1 with rfl | h
    · trivial
    · exact RT.of_rv h
  | a :: l, v :: vs, h, i + 1, hi => by
    simp only [V.nth, List.getD_cons_succ]
    exact RVs.nth h.2 i (by simpa using hi)
  | [], _ :: _, h, _, _ => h.elim
  | _ :: _, [], h, _, _ => h.elim
theorem RVs.len : ∀ {l : List (A U)} {vs : List Value}, RVs E w St ι l vs → l.length = vs.length
  | [], [], _ => rfl
  | a :: l, v :: vs, h => by simp [RVs.len h.2]
  | [], _ :: _, h => h.elim
  | _ :: _, [], h => h.elim

theorem op_extract (ok : EnvOk2 E) (R : Rel E s N a.tmps w ι St) (x : Operand) (i : Nat) (ho : o.op = .extract x i) {l : List (A U)} (hx : s.ev E 0 x = .tup l) (hi : i < l.length) : Ops E s N a w ι St b o [] (nth l i) := by
  have h1 := ev_ok ok R 0 x
  rw [hx] at h1
  obtain ⟨vs, h2, h3⟩ := h1
  have hl := h3.len
  have h4 := h3.nth i (by omega)
  have hi2 : i < vs.size := by simpa using (by omega : i < vs.toList.length)
  have h5 : vs[i]? = some (vs.toList.getD i undef) := by
    simp [List.getD, hi2]
  refine Ops.pure R (u := vs.toList.getD i undef) ?_ h4
  generalize vs.toList.getD i undef = y at h5
  simp [execOp, ho, h2, Instr.extract, h5]

theorem op_conv_int (ok : EnvOk2 E) (R : Rel E s N a.tmps w ι St) (t d : TypeId) (x : Operand) (ho : o.op = .convert t d x) {k k' : IntKind} {n : Int} (hd : E.ty d = .int k) (hs : E.ty t ≠ .no) (hx : s.ev E t x = .int k' n) : Ops E s N a w ι St b o [] (.int k (k.wrap n)) := by
  have h1 := ev_ok ok R t x
  rw [hx] at h1
  have h1 := RV.int_inv h1
  have hu : E.P.underlying d = some (.int k) := by have := ok.under d; rw [hd] at this; exact this
  obtain ⟨dt, hdt, -⟩ := ok.agg t hs
  refine Ops.pure R (u := .int k (k.wrap n)) ?_ (RT.of_rv (.mk1 (.int .nil) rfl rfl))
  simp [execOp, ho, h1, convert, run_underlying hu, run_underlying hdt, Conv.intToInt]
theorem op_conv_str (ok : EnvOk2 E) (R : Rel E s N a.tmps w ι St) (t d : TypeId) (x : Operand) (ho : o.op = .convert t d x) {g : ByteArray} (hd : E.ty d = .str) (hs : E.ty t ≠ .no) (hx : s.ev E t x = .str g) : Ops E s N a w ι St b o [] (.str g) := by
  have h1 := ev_ok ok R t x
  rw [hx] at h1
  have h1 := RV.str_inv h1
  have hu : E.P.underlying d = some .string := by have := ok.under d; rw [hd] at this; exact this
  obtain ⟨dt, hdt, -⟩ := ok.agg t hs
  refine Ops.pure R (u := .string g) ?_ (RT.of_rv (.mk1 (.str .nil) rfl rfl))
  simp [execOp, ho, h1, convert, run_underlying hu, run_underlying hdt]
end
end Go.V
