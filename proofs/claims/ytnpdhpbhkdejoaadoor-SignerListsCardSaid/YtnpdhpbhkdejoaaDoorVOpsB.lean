/- V: slices: clipped ones; of arrays. -/
import Derived.Test.YtnpdhpbhkdejoaaDoorVOpsA
import Derived.Laws.NewFold
set_option linter.unusedVariables false
set_option linter.unusedSimpArgs false
namespace Go.V
variable {U : Nat → Type}
section
variable {E : Env U} {w : World} {St : Bool → Nat → Prop} {ι : Nat → Option Value} {s : S U} {N : Nat} {a : Act} {b : Nat} {o : Oper}

theorem cut_zero {α : Type} (l : List α) (j : Nat) : cut l 0 j = l.take j := rfl
theorem cut_to_end {α : Type} (l : List α) (i : Nat) : cut l i (l.length - i) = l.drop i := by unfold cut; exact List.take_of_length_le (by simp)

/-- a slice, cut, and with no room behind -/
theorem op_slice_clip (ok : EnvOk2 E) (R : Rel E s N a.tmps w ι St) (t : TypeId) (x : Operand) (lo : Option Operand) (hi mx : Operand) (ho : o.op = .slice t x lo (some hi) (some mx)) {g : Bool} {c : Nat} {l : List (U c)} (hx : s.ev E t x = .ro g c l) (ht : slOf E t c = true)
    {i j : Int} {k k' : IntKind} (h1 : optI 0 (lo.map (s.ev E 0)) = some i) (h2 : s.ev E 0 hi = .int k j) (h3 : s.ev E 0 mx = .int k' j) (b0 : 0 ≤ i) (b1 : i ≤ j) (b2 : j ≤ (l.length : Int)) :
    Ops E s N a w ι St b o [] (.clip g c (cut l i.toNat (j - i).toNat)) := by
  obtain ⟨t1, t2⟩ := slOf_iff ok ht
  have hv := ev_ok ok R t x
  rw [hx] at hv
  obtain ⟨a', cap, q1, q2⟩ := RV.ro_inv hv
  have i1 := optI_ok ok R 0 lo h1
  have i2 := ev_ok ok R 0 hi
  rw [h2] at i2
  have i2 := RV.int_inv i2
  have i3 := ev_ok ok R 0 mx
  rw [h3] at i3
  have i3 := RV.int_inv i3
  have hcap : l.length ≤ cap := by
    rcases q2 with rfl | ⟨ds, B, off, rfl, q3, q4, q5, q6⟩
    · simp
    · exact q6
  have hlen : (cut l i.toNat (j - i).toNat).length = (j - i).toNat := by simp only [cut, List.length_take, List.length_drop]; omega
  obtain ⟨inf, hinf, hs, -⟩ := ok.info c t2
  have hb : (Instr.sliceBounds true l.length cap (lo.map a.eval) (some (a.eval hi)) (some (a.eval mx))).run E.P w = .ok (i.toNat, j.toNat, j.toNat) w := by
    have b3 : ∀ cc, (Instr.sliceBound (.int k' j) cap cc).run E.P w = .ok j.toNat w := fun cc => bound_run k' j cap cc (by omega) (by omega)
    have b4 : ∀ cc, (Instr.sliceBound (.int k j) j.toNat cc).run E.P w = .ok j.toNat w := fun cc => bound_run k j j.toNat cc (by omega) (by omega)
    rw [i2, i3]
    rcases i1 with ⟨e1, rfl⟩ | ⟨k2, e1⟩
    · rw [e1]; simp [Instr.sliceBounds, b3, b4]
    · have b5 : ∀ cc, (Instr.sliceBound (.int k2 i) j.toNat cc).run E.P w = .ok i.toNat w := fun cc => bound_run k2 i j.toNat cc b0 (by omega)
      rw [e1]; simp [Instr.sliceBounds, b3, b4, b5]
  have hrun : (Instr.sliceAt t (a.eval x) (lo.map a.eval) (some (a.eval hi)) (some (a.eval mx))).run E.P w = .ok (.slice (if j.toNat = i.toNat then a' else a'.map (·.add (i.toNat * E.sz c))) (j.toNat - i.toNat) (j.toNat - i.toNat)) w := by
    rw [q1]
    simp [Instr.sliceAt, Instr.slice, run_underlying (under_sl ok t1), hb, sizeOf, typeInfo, hinf, hs]
  refine Ops.pure R (u := _) (by simp only [execOp, ho, Option.map_some]; rw [Sem.run_bind, hrun]; rfl) (RT.of_rv (.mk1 ?_ rfl rfl))
  by_cases hz : (j - i).toNat = 0
  · have hnil : cut l i.toNat (j - i).toNat = [] := List.eq_nil_of_length_eq_zero (by omega)
    rw [hnil, show j.toNat - i.toNat = 0 by omega]
    exact .clipE .nil
  · rw [if_neg (by omega)]
    rcases q2 with rfl | ⟨ds, B, off, rfl, q3, q4, q5, q6⟩
    · simp at b2; omega
    · simp only [Option.map_some, Addr.add_eq]
      obtain ⟨es, p1, p2⟩ := cut_cells ok.toEnvOk (i := i.toNat) (len := (j - i).toNat) q3 q4 (by omega)
      have := RC.clip (w := w) (St := St) (ι := ι) (b := g) (c := c) p1 p2 q5 .nil
      rw [hlen] at this
      rwa [show j.toNat - i.toNat = (j - i).toNat by omega]

/-- an array that is lent, as a slice -/
theorem op_slice_rp (ok : EnvOk2 E) (R : Rel E s N a.tmps w ι St) (t : TypeId) (x : Operand) (ho : o.op = .slice t x none none none) {g : Bool} {c i : Nat} {l : List (U c)} {p : List Step} (hx : s.ev E t x = .rp g c l i p) {n e : Nat} (ht : E.ty t = .arr n e) (hne : isNo (E.ty e) = false)
    {r : List (U e)} (hr : getP E (E.enc c (l.getD i (E.dflt c))) p = .arr e n r) : Ops E s N a w ι St b o [] (.ro g e r) := by
  have hv := ev_ok ok R t x
  rw [hx] at hv
  obtain ⟨ds, B, off, q1, q2, q3, q4, q5, q6⟩ := RV.rp_inv hv
  obtain ⟨es, p1, p2⟩ := elem_at ok.toEnvOk q1 q2 q4 q5 (by rw [hr]; rfl)
  rw [hr] at p1
  obtain ⟨p3, p4, -⟩ := p1.arr_inv
  have hne' : E.ty e ≠ .no := fun h => by rw [h] at hne; cases hne
  obtain ⟨inf, hinf, hs, -⟩ := ok.info e hne'
  have hrun : (Instr.sliceAt t (a.eval x) none none none).run E.P w = .ok (.slice (some ⟨B, off + (i * E.sz c + po p), .none⟩) n n) w := by
    rw [q6]
    simp [Instr.sliceAt, Instr.sliceBounds, Instr.sureAddr, run_underlying (under_arr ok ht), sizeOf, typeInfo, hinf, hs, Addr.add_eq]
  refine Ops.pure R (u := .slice (some ⟨B, off + (i * E.sz c + po p), .none⟩) n n) (by simp only [execOp, ho, Option.map_none]; rw [Sem.run_bind, hrun]; rfl) (RT.of_rv (.mk1 ?_ rfl rfl))
  subst p3
  exact .ro p4 p2 q3 (Nat.le_refl _) .nil

/-- an array of one's own, as a slice -/
theorem op_slice_box (ok : EnvOk2 E) (R : Rel E s N a.tmps w ι St) (t : TypeId) (x : Operand) (lo hi : Option Operand) (ho : o.op = .slice t x lo hi none) {m : Nat} {p : List Step} (hx : s.ev E t x = .ptr m p) {q : A U} (hm : s.h m = .box q) {n e : Nat} (ht : E.ty t = .arr n e) (hne : isNo (E.ty e) = false)
    {i j : Int} (h1 : optI 0 (lo.map (s.ev E 0)) = some i) (h2 : optI (n : Int) (hi.map (s.ev E 0)) = some j) (b0 : 0 ≤ i) (b1 : i ≤ j) (b2 : j ≤ (n : Int)) :
    Ops E s N a w ι St b o [] (.bsl m p e n i.toNat (j - i).toNat) := by
  have hv := ev_ok ok R t x
  rw [hx] at hv
  obtain ⟨u, B, off, q1, q2, q3, q4⟩ := RV.ptr_inv hv
  have h0 := R.obj m
  rw [hm] at h0
  obtain ⟨B', cs, r1, r2, r3, r4, r5⟩ := h0
  rw [q1] at r1
  simp only [Option.some.injEq] at r1
  subst r1
  simp only [base, Option.some.injEq, Prod.mk.injEq] at q2
  obtain ⟨rfl, rfl⟩ := q2
  have i1 := optI_ok ok R 0 lo h1
  have i2 := optI_ok ok R _ hi h2
  have hne' : E.ty e ≠ .no := fun h => by rw [h] at hne; cases hne
  obtain ⟨inf, hinf, hs, -⟩ := ok.info e hne'
  have hb := bounds_run (E := E) (w := w) false n n (lo.map a.eval) (hi.map a.eval) i j i1 i2 b0 b1 b2 (Nat.le_refl _)
  have hrun : (Instr.sliceAt t (a.eval x) (lo.map a.eval) (hi.map a.eval) none).run E.P w = .ok (.slice (some (if n = i.toNat then ⟨B', 0 + po p, .none⟩ else ⟨B', 0 + po p + i.toNat * E.sz e, .none⟩)) (j.toNat - i.toNat) (n - i.toNat)) w := by
    rw [q4]
    simp [Instr.sliceAt, Instr.sureAddr, run_underlying (under_arr ok ht), hb, sizeOf, typeInfo, hinf, hs, Addr.add_eq]
  refine Ops.pure R (u := _) (by simp only [execOp, ho, Option.map_none]; rw [Sem.run_bind, hrun]; rfl) (RT.of_rv (.mk1 ?_ rfl rfl))
  rw [show j.toNat - i.toNat = (j - i).toNat by omega]
  refine .bsl q1 (by omega) (by omega) (by omega) ?_ q3 .nil
  by_cases h : n = i.toNat
  · exact .inl (by omega)
  · rw [if_neg h, Nat.zero_add]; exact .inr rfl

/-- a slice of nothing -/
theorem op_buildSlice0 (ok : EnvOk2 E) (R : Rel E s N a.tmps w ι St) (hb : ι b = none) (hd : isLive (s.h b) = false) (t e : TypeId) (n : Nat) (ps : Array (Nat × Operand)) (ho : o.op = .buildSlice t n ps) (ht : E.ty t = .sl e) (hne : isNo (E.ty e) = false) (hn : n = 0) (hp : ps.toList = []) :
    Ops E s N a w ι St b o [(b, .lst e [])] (.own b) := by
  have hne' : E.ty e ≠ .no := fun h => by rw [h] at hne; cases hne
  obtain ⟨inf, hinf, hs, -⟩ := ok.info e hne'
  obtain rfl : ps = #[] := Array.toList_eq_nil_iff.1 hp
  subst hn
  have hrun : (Instr.buildSlice t 0 #[]).run E.P w = .ok (.slice (some ⟨w.heap.size, 0, .none⟩) 0 0) (w.alloc (.cells #[] e)) := by
    simp [Instr.buildSlice, run_underlying (under_sl ok ht), sizeOf, typeInfo, hinf, Instr.fill, newRow, run_newObj_alloc, Sem.run_bind, Result.andThen]
    congr 2
    exact Array.toList_inj.1 (by simp)
  refine Ops.fresh R hb hd (u := .slice (some ⟨w.heap.size, 0, .none⟩) 0 0) (x := .slice (some ⟨w.heap.size, 0, .none⟩) 0 0) (w' := w.alloc (.cells #[] e)) ?_ (Fr.alloc _ _ _) (.inl (by unfold blk; rw [base_zero]; rfl)) (.inl ⟨⟨_, rfl⟩, rfl⟩) (RT.of_rv (.mk1 (.own (upd_same _ _ _) .nil) rfl rfl))
  simp only [execOp, ho]
  rw [Sem.run_bind]
  rw [Array.map_empty, hrun]
  rfl

theorem run_equal_nil {P : Program} (w : World) {t e : TypeId} (h : P.underlying t = some (.slice e)) (a' : Option Addr) (n cap : Nat) : (Op.equal t (.slice a' n cap) (.slice none 0 0)).run P w = .ok a'.isNone w := by
  show (Op.equalIn (9999 + 1) t _ _).run P w = _
  unfold Op.equalIn
  cases a' <;> simp [run_underlying h]

/-- is a slice nil? if it is, it holds nothing -/
theorem op_nil (ok : EnvOk2 E) (R : Rel E s N a.tmps w ι St) (op : BinOp) (t ty : TypeId) (x y : Operand) (ho : o.op = .binOp op t x y ty) {c : Nat} (ht : slOf E t c = true) {q : Cont U} (hx : content E s.h (s.ev E t x) = some q) (hb : isBsl (s.ev E t x) = false) (hy : a.eval y = .slice .none 0 0) :
    ∃ r : Bool, (r = true → q.l = []) ∧ (op = .eql → Ops E s N a w ι St b o [] (.bool r)) ∧ (op = .neq → Ops E s N a w ι St b o [] (.bool (!r))) := by
  obtain ⟨t1, t2⟩ := slOf_iff ok ht
  have hv := ev_ok ok R t x
  have key : ∃ a' n cap, a.eval x = .slice a' n cap ∧ (a' = none → q.l = []) := by
    cases hu : s.ev E t x with
    | nils c' =>
      rw [hu] at hx hv
      obtain rfl := Option.some.inj hx
      exact ⟨_, _, _, RV.nils_inv hv, fun _ => rfl⟩
    | ro g c' l' =>
      rw [hu] at hx hv
      obtain rfl := Option.some.inj hx
      obtain ⟨a', cap, h1, h2⟩ := RV.ro_inv hv
      refine ⟨_, _, _, h1, fun e => ?_⟩
      rcases h2 with h | ⟨ds, B, off, rfl, -⟩
      · exact h
      · cases e
    | clip g c' l' =>
      rw [hu] at hx hv
      obtain rfl := Option.some.inj hx
      obtain ⟨a', h1, h2⟩ := RV.clip_inv hv
      refine ⟨_, _, _, h1, fun e => ?_⟩
      rcases h2 with h | ⟨ds, B, off, rfl, -⟩
      · exact h
      · cases e
    | own m =>
      rw [hu] at hx hv
      obtain ⟨a', L, C, h1, h2⟩ := RV.own_inv hv
      have key : s.h m = .lst q.c q.l ∨ s.h m = .fz q.c q.l := by
        cases hm : s.h m with
        | lst c' l' => simp only [content, hm] at hx; obtain rfl := Option.some.inj hx; exact .inl rfl
        | fz c' l' => simp only [content, hm] at hx; obtain rfl := Option.some.inj hx; exact .inr rfl
        | dead => simp [content, hm] at hx
        | box q => simp [content, hm] at hx
        | lp lf lk live vals j => simp [content, hm] at hx
      obtain ⟨rfl, h3⟩ := R.own_at key h2
      refine ⟨_, _, _, h1, fun e => ?_⟩
      rcases h3 with h | ⟨B, off, ds, rfl, -⟩
      · exact h
      · cases e
    | sub m c' i len => rw [hu] at hb; cases hb
    | bsl m p c' M i len => rw [hu] at hb; cases hb
    | _ => rw [hu] at hx; simp [content] at hx
  obtain ⟨a', n, cap, h1, h2⟩ := key
  refine ⟨a'.isNone, fun h => h2 (by simpa using h), fun e => ?_, fun e => ?_⟩
  · subst e
    refine Ops.pure R (u := .bool a'.isNone) ?_ (RT.of_rv (.mk1 (.bool .nil) rfl rfl))
    simp [execOp, ho, h1, hy, eqGuard, binOp, run_equal_nil w (under_sl ok t1)]
  · subst e
    refine Ops.pure R (u := .bool (!a'.isNone)) ?_ (RT.of_rv (.mk1 (.bool .nil) rfl rfl))
    simp [execOp, ho, h1, hy, eqGuard, binOp, run_equal_nil w (under_sl ok t1)]
end
end Go.V
