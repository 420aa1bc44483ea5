/- V, eleventh part: len, append. -/
import Derived.Test.YtnpdhpbhkdejoaaDoorVOps6
set_option linter.unusedVariables false
set_option linter.unusedSimpArgs false
namespace Go.V
variable {U : Nat → Type}
section
variable {E : Env U} {w : World} {St : Bool → Nat → Prop} {ι : Nat → Option Value} {s : S U} {N : Nat} {a : Act} {b : Nat} {o : Oper}

theorem len_run (ty : TypeId) {t : TypeId} {c : Call} (hc : c.callee = .builtin .len) (ho : o.op = .call c) (args : Array Value) (he : c.args.map a.eval = args) (n : Int)
    (hr : (Builtin.len_ c.argTypes o.type args).run E.P w = .ok (.int .i64 n) w) : (execOp a.eval o).run E.P w = .ok (.value (.int .i64 n)) w := by
  simp only [execOp, ho, resolve, hc, Sem.run_bind, Sem.run_pure, Result.andThen_ok, invoke, builtin, he, hr]

theorem op_len (ok : EnvOk2 E) (R : Rel E s N a.tmps w ι St) {c : Call} (hc : c.callee = .builtin .len) (ho : o.op = .call c) {x : Operand} {t : TypeId} (hargs : c.args.toList = [x]) (ht : c.argTypes.toList.getD 0 0 = t) (ht2 : c.argTypes.toList ≠ [])
    {rd : List Nat} {v : A U} (hp : lenV E s t (s.ev E t x) = .done .none rd [] v) : Ops E s N a w ι St b o [] v := by
  have hev := ev_ok ok R t x
  have ha : c.args.map a.eval = #[a.eval x] := by
    have : c.args = #[x] := Array.ext' (by simpa using hargs)
    rw [this]; simp
  have hat : c.argTypes[0]? = some t := by
    cases h : c.argTypes.toList with
    | nil => exact absurd h ht2
    | cons q r => rw [h] at ht; simp at ht; subst ht; have := congrArg (·[0]?) h; simpa using this
  have fin : ∀ n : Int, (Builtin.len_ c.argTypes o.type #[a.eval x]).run E.P w = .ok (.int .i64 n) w → v = .int .i64 n → Ops E s N a w ι St b o [] v := by
    intro n hr hv
    subst hv
    exact Ops.pure R (len_run (t := t) t hc ho _ ha n hr) (RT.of_rv (.mk1 (.int .nil) rfl rfl))
  unfold lenV at hp
  cases hty : E.ty t with
  | str =>
    rw [hty] at hp
    cases hx : s.ev E t x with
    | str g =>
      rw [hx] at hp hev
      simp only [Plan.done.injEq] at hp
      have hu : E.P.underlying t = some .string := by have := ok.under t; rw [hty] at this; exact this
      have h1 := RV.str_inv hev
      exact fin (g.size : Int) (by simp [Builtin.len_, hat, run_underlying hu, h1, goInt]) hp.2.2.2.symm
    | _ => rw [hx] at hp; simp at hp
  | arr n e =>
    rw [hty] at hp
    simp only [Plan.done.injEq] at hp
    exact fin (n : Int) (by simp [Builtin.len_, hat, run_underlying (under_arr ok hty), goInt]) hp.2.2.2.symm
  | sl e =>
    rw [hty] at hp
    have hu := under_sl ok hty
    have slc : ∀ (a' : Option Addr) (L C : Nat), a.eval x = .slice a' L C → (Builtin.len_ c.argTypes o.type #[a.eval x]).run E.P w = .ok (.int .i64 (L : Int)) w := by
      intro a' L C h
      simp [Builtin.len_, hat, run_underlying hu, h, goInt]
    cases hx : s.ev E t x with
    | sub m c i n =>
      rw [hx] at hp hev
      simp only [Plan.done.injEq] at hp
      obtain ⟨a0, a1, L, C, cap, -, -, -, -, -, h⟩ := RV.sub_inv hev
      exact fin _ (slc _ _ _ h) hp.2.2.2.symm
    | bsl m p c M i n =>
      rw [hx] at hp hev
      simp only [Plan.done.injEq] at hp
      obtain ⟨B, a1, cap, -, -, -, -, -, -, h⟩ := RV.bsl_inv hev
      exact fin _ (slc _ _ _ h) hp.2.2.2.symm
    | nils c =>
      rw [hx] at hp hev
      simp only [Plan.done.injEq] at hp
      exact fin 0 (slc _ _ _ (RV.nils_inv hev)) hp.2.2.2.symm
    | ro g c l =>
      rw [hx] at hp hev
      simp only [Plan.done.injEq] at hp
      obtain ⟨a', cap, h, -⟩ := RV.ro_inv hev
      exact fin _ (slc _ _ _ h) hp.2.2.2.symm
    | clip g c l =>
      rw [hx] at hp hev
      simp only [Plan.done.injEq] at hp
      obtain ⟨a', h, -⟩ := RV.clip_inv hev
      exact fin _ (slc _ _ _ h) hp.2.2.2.symm
    | own m =>
      rw [hx] at hp hev
      obtain ⟨a', L, C, h, h2⟩ := RV.own_inv hev
      cases hm : s.h m with
      | lst c l =>
        simp only [hm, Plan.done.injEq] at hp
        obtain ⟨rfl, -⟩ := R.own_at (.inl hm) h2
        exact fin _ (slc _ _ _ h) hp.2.2.2.symm
      | fz c l =>
        simp only [hm, Plan.done.injEq] at hp
        obtain ⟨rfl, -⟩ := R.own_at (.inr hm) h2
        exact fin _ (slc _ _ _ h) hp.2.2.2.symm
      | _ => simp [hm] at hp
    | _ => rw [hx] at hp; simp at hp
  | _ => rw [hty] at hp; simp at hp

end
end Go.V
