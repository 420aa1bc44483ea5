/- V, fifth part: the operations, each: what the plan says comes about. -/
import Derived.Test.YtnpdhpbhkdejoaaDoorVState
set_option linter.unusedVariables false
namespace Go.V
variable {U : Nat → Type}

def tyOk (P : Program) (t : TypeId) : Ty → Prop
  | .no => True
  | .int k => P.underlying t = some (.int k)
  | .bool => P.underlying t = some .bool
  | .str => P.underlying t = some .string
  | .ptr e => P.underlying t = some (.pointer e)
  | .func => True
  | .sl e => P.underlying t = some (.slice e)
  | .arr n e => P.underlying t = some (.array n e)
  | .st fs => ∃ fields : Array Field, P.underlying t = some (.struct fields) ∧ fs = fields.toList.map fun f => (f.type, f.offset)

/-- a value that is no tuple -/
def noTupG : A U → Bool
  | .tup _ => false
  | _ => true
/-- what is asked of the types whose values are compared whole -/
def eqsOk (P : Program) (eqs : List TypeId) : Bool := eqs.all fun t => !P.eqGuardType P.depth t && (match P.underlying t with
  | some (.struct fs) => (fs.toList.all fun f => !(f.name == "_")) && !P.stoodInHeld t
  | _ => true)
structure EnvOk2 (E : Env U) : Prop extends EnvOk E where
  under : ∀ t, tyOk E.P t (E.ty t)
  info : ∀ t, E.ty t ≠ .no → ∃ i, E.P.info? t = some i ∧ i.size = E.sz t ∧ i.bytes = E.by' t
  agg : ∀ t, E.ty t ≠ .no → ∃ d, E.P.underlying t = some d ∧ d.isRow = rowTy (E.ty t)
  zer : ∀ t, known (zero E t) = true → ∃ i z, E.P.info? t = some i ∧ i.zero = some z ∧ ∀ w St ι, RV E w St ι (zero E t) z
  dfl : ∀ c, E.ty c ≠ .no → ∃ i z, E.P.info? c = some i ∧ i.zero = some z ∧ z.cells.size = E.sz c ∧ ∀ w St ι, RC E w St ι [E.enc c (E.dflt c)] z.cells.toList []
  mixed : E.P.follows .mixedOrders = true
  glob : ∀ g, loan (E.glob g) = false ∧ noTupG (E.glob g) = true
  eqA : ∀ c, plainTy (E.ty c) = true → (∀ l m : List (U c), E.eqb c l m = true ↔ l = m) ∧ ∀ x y : U c, ∃ r, eqV E 1 c (E.enc c x) (E.enc c y) = some r ∧ (r = true ↔ x = y)
  eqT : eqsOk E.P E.eqs = true
  toB : ∀ c l t, E.toBytes c l = some t → E.ty c = .int .u8 ∧ ∃ ns : List Int, l.map (E.enc c) = ns.map (.int .u8) ∧ t = bytesOf ns
  ofB : ∀ c t l, E.ofBytes c t = some l → E.ty c = .int .u8 ∧ l.map (E.enc c) = (bytesTo t).map (.int .u8)

section
variable {E : Env U} {w : World} {St : Bool → Nat → Prop} {ι : Nat → Option Value}

theorem cells_one {v : Value} (h : isAggV v = false) : v.cells.toList = [v] := by
  cases v <;> first | rfl | simp [isAggV] at h

theorem RV.one {a : A U} {v : Value} (h : RV E w St ι a v) (ha : isAgg a = false) : RC E w St ι [a] [v] [] := by
  have := h.1
  rwa [cells_one (by rw [h.2, ha])] at this
theorem RV.mk1 {a : A U} {v : Value} (h : RC E w St ι [a] [v] []) (ha : isAgg a = false) (hv : isAggV v = false) : RV E w St ι a v :=
  ⟨by rw [cells_one hv]; exact h, by rw [ha, hv]⟩

theorem RV.int_inv {k : IntKind} {n : Int} {v : Value} (h : RV E w St ι (.int k n) v) : v = .int k n := by
  have := h.one rfl; cases this; rfl
theorem RV.bool_inv {b : Bool} {v : Value} (h : RV E w St ι (.bool b) v) : v = .bool b := by
  have := h.one rfl; cases this; rfl
theorem RV.str_inv {b : ByteArray} {v : Value} (h : RV E w St ι (.str b) v) : v = .string b := by
  have := h.one rfl; cases this; rfl
theorem RV.nilp_inv {v : Value} (h : RV E w St ι (.nilp) v) : v = .pointer .none := by
  have := h.one rfl; cases this; rfl
theorem RV.nilf_inv {v : Value} (h : RV E w St ι (.nilf) v) : v = .nilFunc := by
  have := h.one rfl; cases this; rfl
theorem RV.nils_inv {c : Nat} {v : Value} (h : RV E w St ι (.nils c) v) : v = .slice .none 0 0 := by
  have := h.one rfl; cases this; rfl
theorem RV.agg_inv {l : List (A U)} {v : Value} (h : RV E w St ι (.agg l) v) : ∃ cs, v = .agg cs ∧ RC E w St ι l cs.toList [] := by
  have h2 := h.2
  cases v with
  | agg cs => exact ⟨cs, rfl, h.1.agg_inv⟩
  | _ => simp [isAggV, isAgg] at h2
theorem RV.arr_inv {c n : Nat} {l : List (U c)} {v : Value} (h : RV E w St ι (.arr c n l) v) : ∃ cs, v = .agg cs ∧ l.length = n ∧ RC E w St ι (l.map (E.enc c)) cs.toList [] := by
  have h2 := h.2
  cases v with
  | agg cs => exact ⟨cs, rfl, h.1.arr_inv.1, h.1.arr_inv.2.1⟩
  | _ => simp [isAggV, isAgg] at h2
theorem RV.own_inv {n : Nat} {v : Value} (h : RV E w St ι (.own n) v) : ∃ a L C, v = .slice a L C ∧ ι n = some (.slice a L C) := by
  have := h.one rfl; cases this; exact ⟨_, _, _, rfl, by assumption⟩
theorem RV.ptr_inv {n : Nat} {p : List Step} {v : Value} (h : RV E w St ι (.ptr n p) v) : ∃ u B off, ι n = some u ∧ base u = some (B, off) ∧ vp (lenV' u) p ∧ v = .pointer (some ⟨B, off + po p, .none⟩) := by
  have := h.one rfl; cases this; exact ⟨_, _, _, by assumption, by assumption, by assumption, rfl⟩
theorem RV.rp_inv {b : Bool} {c : Nat} {xs : List (U c)} {i : Nat} {p : List Step} {v : Value} (h : RV E w St ι (.rp b c xs i p) v) :
    ∃ ds B off, RC E w St ι (xs.map (E.enc c)) ds [] ∧ w.rangeAt B off ds ∧ St b B ∧ i < xs.length ∧ vp 0 p ∧ v = .pointer (some ⟨B, off + (i * E.sz c + po p), .none⟩) := by
  have := h.one rfl; cases this; exact ⟨_, _, _, by assumption, by assumption, by assumption, by assumption, by assumption, rfl⟩
theorem RV.ro_inv {b : Bool} {c : Nat} {xs : List (U c)} {v : Value} (h : RV E w St ι (.ro b c xs) v) :
    ∃ a cap, v = .slice a xs.length cap ∧ (xs = [] ∨ ∃ ds B off, a = some ⟨B, off, .none⟩ ∧ RC E w St ι (xs.map (E.enc c)) ds [] ∧ w.rangeAt B off ds ∧ St b B ∧ xs.length ≤ cap) := by
  have := h.one rfl
  cases this
  · exact ⟨_, _, rfl, .inl rfl⟩
  · exact ⟨_, _, rfl, .inr ⟨_, _, _, rfl, by assumption, by assumption, by assumption, by assumption⟩⟩
theorem RV.clip_inv {b : Bool} {c : Nat} {xs : List (U c)} {v : Value} (h : RV E w St ι (.clip b c xs) v) :
    ∃ a, v = .slice a xs.length xs.length ∧ (xs = [] ∨ ∃ ds B off, a = some ⟨B, off, .none⟩ ∧ RC E w St ι (xs.map (E.enc c)) ds [] ∧ w.rangeAt B off ds ∧ St b B) := by
  have := h.one rfl
  cases this
  · exact ⟨_, rfl, .inl rfl⟩
  · exact ⟨_, rfl, .inr ⟨_, _, _, rfl, by assumption, by assumption, by assumption⟩⟩
theorem RV.sub_inv {n c i len : Nat} {v : Value} (h : RV E w St ι (.sub n c i len) v) : ∃ a a' L C cap, ι n = some (.slice a L C) ∧ i + len ≤ L ∧ len ≤ cap ∧ i + cap ≤ C ∧ (cap = 0 ∨ a' = a.map (·.add (i * E.sz c))) ∧ v = .slice a' len cap := by
  have := h.one rfl; cases this; exact ⟨_, _, _, _, _, by assumption, by assumption, by assumption, by assumption, by assumption, rfl⟩
theorem RV.bsl_inv {n : Nat} {p : List Step} {c M i len : Nat} {v : Value} (h : RV E w St ι (.bsl n p c M i len) v) : ∃ B a' cap, ι n = some (.pointer (some ⟨B, 0, .none⟩)) ∧ i + len ≤ M ∧ len ≤ cap ∧ i + cap ≤ M ∧ (cap = 0 ∨ a' = some ⟨B, po p + i * E.sz c, .none⟩) ∧ vp 0 p ∧ v = .slice a' len cap := by
  have := h.one rfl; cases this; exact ⟨_, _, _, by assumption, by assumption, by assumption, by assumption, by assumption, by assumption, rfl⟩
theorem RV.clo_inv {f : FuncId} {l : List (A U)} {v : Value} (h : RV E w St ι (.clo f l) v) : ∃ vs, v = .func (.func f) #[] vs ∧ RC E w St ι l ((vs.toList.map (·.cells.toList)).flatten) [] ∧
    vs.toList.map (fun v => (v.cells.size, isAggV v)) = l.map (fun a => (size E.sz a, isAgg a)) := by
  have := h.one rfl; cases this; exact ⟨_, rfl, by assumption, by assumption⟩

theorem RT.rv {a : A U} {v : Value} (h : RT E w St ι a v) (hk : known a = true) : RV E w St ι a v := by
  cases a <;> first | exact h | simp [known] at hk
theorem RT.of_rv {a : A U} {v : Value} (h : RV E w St ι a v) : RT E w St ι a v := by
  cases a <;> first | exact h | trivial | skip
  rename_i l
  exact absurd h.1 (by intro h; cases h)

theorem const_ok (ok : EnvOk2 E) (t : TypeId) (v : Value) : RT E w St ι (constA E t v) v := by
  unfold constA
  split
  · exact .mk1 (.int .nil) rfl rfl
  · exact .mk1 (.bool .nil) rfl rfl
  · exact .mk1 (.str .nil) rfl rfl
  · exact .mk1 (.nilp .nil) rfl rfl
  · exact .mk1 (.nilf .nil) rfl rfl
  · split
    · exact .mk1 (.nils .nil) rfl rfl
    · trivial
  · trivial

theorem ev_ok (ok : EnvOk2 E) {s : S U} {N : Nat} {a : Act} (R : Rel E s N a.tmps w ι St) (t : TypeId) (x : Operand) : RT E w St ι (s.ev E t x) (a.eval x) := by
  cases x with
  | tmp d => exact R.tmp d
  | const v => exact const_ok ok t v
  | func f => exact .mk1 (.clo (vs := #[]) .nil rfl .nil) rfl rfl
  | global g => exact (R.sup.glo g).ext ⟨fun _ _ h => h, fun _ _ h => by simp at h, fun _ _ => rfl, Nat.le_refl _⟩

/-- what the world has of its own, by a state's names -/
def Own (s : S U) (ι : Nat → Option Value) (B : Nat) : Prop := ∃ n, isLive (s.h n) = true ∧ blkO (ι n) = some B

structure OpOk (E : Env U) (s : S U) (N : Nat) (a : Act) (w : World) (ι : Nat → Option Value) (St : Bool → Nat → Prop) (b : Nat) (o : Oper) (wr : List (Nat × AObj U)) (v : A U)
    (nx : Next) (u : Value) (w' : World) (ι' : Nat → Option Value) (St' : Bool → Nat → Prop) : Prop where
  run : (execOp a.eval o).run E.P w = .ok nx w'
  nxt : nx = .value u ∨ (nx = .skip ∧ u = undef)
  rel : Rel E { s with h := upds s.h wr } N a.tmps w' ι' St'
  val : RT E w' St' ι' v u
  fr : Fr (Own s ι) w w'
  nm : ∀ n v, ι n = some v → ι' n = some v
  new : ∀ n, ι' n ≠ none → ι n ≠ none ∨ (b ≤ n ∧ n < b + 100)
  own : ∀ B, Own { s with h := upds s.h wr } ι' B → Own s ι B ∨ w.heap.size ≤ B
  gr : ∀ g B, St' g B → St g B ∨ Own s ι B

def Ops (E : Env U) (s : S U) (N : Nat) (a : Act) (w : World) (ι : Nat → Option Value) (St : Bool → Nat → Prop) (b : Nat) (o : Oper) (wr : List (Nat × AObj U)) (v : A U) : Prop :=
  ∃ nx u w' ι' St', OpOk E s N a w ι St b o wr v nx u w' ι' St'

variable {s : S U} {N : Nat} {a : Act} {b : Nat} {o : Oper}

theorem Ops.pure (R : Rel E s N a.tmps w ι St) {v : A U} {u : Value} (hr : (execOp a.eval o).run E.P w = .ok (.value u) w) (hv : RT E w St ι v u) : Ops E s N a w ι St b o [] v :=
  ⟨_, _, _, _, _, hr, .inl rfl, R, hv, Fr.refl _ _, fun _ _ h => h, fun _ h => .inl h, fun _ h => .inl h, fun _ _ h => .inl h⟩

/-- an operation that makes one thing anew -/
theorem Ops.fresh (R : Rel E s N a.tmps w ι St) (hb : ι b = none) (hd : isLive (s.h b) = false) {ob : AObj U} {v : A U} {u x : Value} {w' : World} (hr : (execOp a.eval o).run E.P w = .ok (.value u) w')
    (hf : Fr (fun _ => False) w w') (hx : blk x = none ∨ ∃ B, blk x = some B ∧ w.heap.size ≤ B)
    (ho : RO E w' St (upd ι b (some x)) ob (some x)) (hv : RT E w' St (upd ι b (some x)) v u) : Ops E s N a w ι St b o [(b, ob)] v := by
  have R1 : Rel E s N a.tmps w' ι St := R.world hf.size (fun B hB => hf.same B (R.stb B hB) id) (fun n B hl hB => by
    have h0 := R.obj n
    cases hn : s.h n with
    | dead => rw [hn] at hl; simp [isLive] at hl
    | fz => rw [hn] at hl; simp [isLive] at hl
    | box q =>
      rw [hn] at h0
      obtain ⟨B', cs, h1, -, -, -, h5⟩ := h0
      rw [h1] at hB
      simp only [blkO, Option.bind_some, blk, base, Option.map_some, Option.some.injEq] at hB
      exact hf.same B (hB ▸ h5) id
    | lp f lid live vals j =>
      rw [hn] at h0
      obtain ⟨r, L, h1, h5, -⟩ := h0
      rw [h1] at hB
      simp only [blkO, Option.bind_some, blk, base, Option.map_some, Option.some.injEq] at hB
      exact hf.same B (hB ▸ (Array.getElem?_eq_some_iff.1 h5).1) id
    | lst c xs =>
      rw [hn] at h0
      rcases h0 with ⟨⟨a', h1⟩, -⟩ | ⟨B', off, cap, ds, h1, -, -, -, -, h5⟩
      · rw [h1] at hB; simp [blkO, blk, base_zero] at hB
      · rw [h1] at hB
        simp only [blkO, Option.bind_some, blk, base, Option.map_some, Option.some.injEq] at hB
        exact hf.same B (hB ▸ h5) id)
  have hlt : ∀ m B, isLive (s.h m) = true → blkO (ι m) = some B → B < w.heap.size := by
    intro n B hl hB
    have h0 := R.obj n
    cases hn : s.h n with
    | dead => rw [hn] at hl; simp [isLive] at hl
    | fz => rw [hn] at hl; simp [isLive] at hl
    | box q =>
      rw [hn] at h0
      obtain ⟨B', cs, h1, -, -, -, h5⟩ := h0
      rw [h1] at hB
      simp only [blkO, Option.bind_some, blk, base, Option.map_some, Option.some.injEq] at hB
      exact hB ▸ h5
    | lp f lid live vals j =>
      rw [hn] at h0
      obtain ⟨r, L, h1, h5, -⟩ := h0
      rw [h1] at hB
      simp only [blkO, Option.bind_some, blk, base, Option.map_some, Option.some.injEq] at hB
      exact hB ▸ (Array.getElem?_eq_some_iff.1 h5).1
    | lst c xs =>
      rw [hn] at h0
      rcases h0 with ⟨⟨a', h1⟩, -⟩ | ⟨B', off, cap, ds, h1, -, -, -, -, h5⟩
      · rw [h1] at hB; simp [blkO, blk, base_zero] at hB
      · rw [h1] at hB
        simp only [blkO, Option.bind_some, blk, base, Option.map_some, Option.some.injEq] at hB
        exact hB ▸ h5
  have R2 := R1.adopt b ob x hd (.inl hb) ho (fun B hl hB => by
    rcases hx with h | ⟨B', h, hge⟩
    · rw [h] at hB; simp at hB
    · rw [h] at hB
      simp only [Option.some.injEq] at hB
      subst hB
      exact ⟨fun hs => absurd (R.stb _ hs) (by omega), fun m hm hm2 => absurd (hlt m _ hm hm2) (by omega)⟩)
  refine ⟨_, _, _, _, _, hr, .inl rfl, R2, hv, hf.mono (fun _ _ h => h.elim), ?_, ?_, ?_, fun _ _ h => .inl h⟩
  · intro n v h
    by_cases e : n = b
    · subst e; rw [hb] at h; simp at h
    · rw [upd_ne _ _ e]; exact h
  · intro n h
    by_cases e : n = b
    · exact .inr ⟨by omega, by omega⟩
    · rw [upd_ne _ _ e] at h; exact .inl h
  · rintro B ⟨n, h1, h2⟩
    by_cases e : n = b
    · subst e
      rw [upd_same] at h2
      rcases hx with h | ⟨B', h, hge⟩
      · simp [blkO, h] at h2
      · simp only [blkO, Option.bind_some, h, Option.some.injEq] at h2
        exact .inr (h2 ▸ hge)
    · rw [upd_ne _ _ e] at h2
      simp only [upds, upd_ne _ _ e] at h1
      exact .inl ⟨n, h1, h2⟩
end
end Go.V
