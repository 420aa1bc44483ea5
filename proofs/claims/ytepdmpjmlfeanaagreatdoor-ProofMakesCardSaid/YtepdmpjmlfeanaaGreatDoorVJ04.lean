/- V: VOpsB, VOpsC, VOpsD, VOpsE -/
import Derived.Test.YtepdmpjmlfeanaaGreatDoorVJ03
import Derived.Laws.NewFold
import Derived.ChangeKeysEq
import Derived.Laws.BytesString
import Derived.Lib.ConvBytes
/- V: slices: clipped ones; of arrays. -/
set_option linter.unusedVariables false
set_option linter.unusedSimpArgs false
namespace Go.V
variable {U : Nat → Type}
section
variable {E : Env U} {w : World} {St : Ck U → Nat → Prop} {ι : Nat → Option Value} {s : S U} {N : Nat} {a : Act} {b : Nat} {o : Oper}

theorem cut_zero {α : Type} (l : List α) (j : Nat) : cut l 0 j = l.take j := rfl
theorem cut_to_end {α : Type} (l : List α) (i : Nat) : cut l i (l.length - i) = l.drop i := by unfold cut; exact List.take_of_length_le (by simp)

/-- a slice, cut, and with no room behind -/
theorem op_slice_clip (ok : EnvOk2 E) (R : Rel E s N a.tmps w ι St) (t : TypeId) (x : Operand) (lo : Option Operand) (hi mx : Operand) (ho : o.op = .slice t x lo (some hi) (some mx)) {g : Bool} {c : Nat} {l : List (U c)} (hx : s.ev E t x = .ro g c l) (ht : slOf E t c = true)
    {i j : Int} {k k' : IntKind} (h1 : optI 0 (lo.map (s.ev E 0)) = some i) (h2 : s.ev E 0 hi = .int k j) (h3 : s.ev E 0 mx = .int k' j) (b0 : 0 ≤ i) (b1 : i ≤ j) (b2 : j ≤ (l.length : Int)) :
    Ops E s N a w ι St b o [] (.clip g c (cut l i.toNat (j - i).toNat)) := by
  obtain ⟨t1, t2⟩ := slOf_iff ok ht
  have hv := ev_ok ok R t x
  rw [hx] at hv
  obtain ⟨a', cap, q1, q2⟩ := RV.ro_inv hv
  have i1 := optI_ok ok R 0 lo h1
  have i2 := ev_ok ok R 0 hi
  rw [h2] at i2
  have i2 := RV.int_inv i2
  have i3 := ev_ok ok R 0 mx
  rw [h3] at i3
  have i3 := RV.int_inv i3
  have hcap : l.length ≤ cap := by
    rcases q2 with rfl | ⟨ds, B, off, rfl, q3, q4, q5, q6⟩
    · simp
    · exact q6
  have hlen : (cut l i.toNat (j - i).toNat).length = (j - i).toNat := by simp only [cut, List.length_take, List.length_drop]; omega
  obtain ⟨inf, hinf, hs, -⟩ := ok.info c t2
  have hb : (Instr.sliceBounds true l.length cap (lo.map a.eval) (some (a.eval hi)) (some (a.eval mx))).run E.P w = .ok (i.toNat, j.toNat, j.toNat) w := by
    have b3 : ∀ cc, (Instr.sliceBound (.int k' j) cap cc).run E.P w = .ok j.toNat w := fun cc => bound_run k' j cap cc (by omega) (by omega)
    have b4 : ∀ cc, (Instr.sliceBound (.int k j) j.toNat cc).run E.P w = .ok j.toNat w := fun cc => bound_run k j j.toNat cc (by omega) (by omega)
    rw [i2, i3]
    rcases i1 with ⟨e1, rfl⟩ | ⟨k2, e1⟩
    · rw [e1]; simp [Instr.sliceBounds, b3, b4]
    · have b5 : ∀ cc, (Instr.sliceBound (.int k2 i) j.toNat cc).run E.P w = .ok i.toNat w := fun cc => bound_run k2 i j.toNat cc b0 (by omega)
      rw [e1]; simp [Instr.sliceBounds, b3, b4, b5]
  have hrun : (Instr.sliceAt t (a.eval x) (lo.map a.eval) (some (a.eval hi)) (some (a.eval mx))).run E.P w = .ok (.slice (if j.toNat = i.toNat then a' else a'.map (·.add (i.toNat * E.sz c))) (j.toNat - i.toNat) (j.toNat - i.toNat)) w := by
    rw [q1]
    simp [Instr.sliceAt, Instr.slice, run_underlying (under_sl ok t1), hb, sizeOf, typeInfo, hinf, hs]
  refine Ops.pure R (u := _) (by simp only [execOp, ho, Option.map_some]; rw [Sem.run_bind, hrun]; rfl) (RT.of_rv (.mk1 ?_ rfl rfl))
  by_cases hz : (j - i).toNat = 0
  · have hnil : cut l i.toNat (j - i).toNat = [] := List.eq_nil_of_length_eq_zero (by omega)
    rw [hnil, show j.toNat - i.toNat = 0 by omega]
    exact .clipE .nil
  · rw [if_neg (by omega)]
    rcases q2 with rfl | ⟨ds, B, off, rfl, q3, q4, q5, q6⟩
    · simp at b2; omega
    · simp only [Option.map_some, Addr.add_eq]
      obtain ⟨es, p1, p2⟩ := cut_cells ok.toEnvOk (i := i.toNat) (len := (j - i).toNat) q3 q4 (by omega)
      have := RC.clip (w := w) (St := St) (ι := ι) (b := g) (c := c) p1 p2 q5 .nil
      rw [hlen] at this
      rwa [show j.toNat - i.toNat = (j - i).toNat by omega]

/-- an array that is lent, as a slice -/
theorem op_slice_rp (ok : EnvOk2 E) (R : Rel E s N a.tmps w ι St) (t : TypeId) (x : Operand) (ho : o.op = .slice t x none none none) {g : Bool} {c i : Nat} {l : List (U c)} {p : List Step} (hx : s.ev E t x = .rp g c l i p) {n e : Nat} (ht : E.ty t = .arr n e) (hne : isNo (E.ty e) = false)
    {r : List (U e)} (hr : getP E (E.enc c (l.getD i (E.dflt c))) p = .arr e n r) : Ops E s N a w ι St b o [] (.ro g e r) := by
  have hv := ev_ok ok R t x
  rw [hx] at hv
  obtain ⟨ds, B, off, q1, q2, q3, q4, q5, q6⟩ := RV.rp_inv hv
  obtain ⟨es, p1, p2⟩ := elem_at ok.toEnvOk q1 q2 q4 q5 (by rw [hr]; rfl)
  rw [hr] at p1
  obtain ⟨p3, p4, -⟩ := p1.arr_inv
  have hne' : E.ty e ≠ .no := fun h => by rw [h] at hne; cases hne
  obtain ⟨inf, hinf, hs, -⟩ := ok.info e hne'
  have hrun : (Instr.sliceAt t (a.eval x) none none none).run E.P w = .ok (.slice (some ⟨B, off + (i * E.sz c + po p), .none⟩) n n) w := by
    rw [q6]
    simp [Instr.sliceAt, Instr.sliceBounds, Instr.sureAddr, run_underlying (under_arr ok ht), sizeOf, typeInfo, hinf, hs, Addr.add_eq]
  refine Ops.pure R (u := .slice (some ⟨B, off + (i * E.sz c + po p), .none⟩) n n) (by simp only [execOp, ho, Option.map_none]; rw [Sem.run_bind, hrun]; rfl) (RT.of_rv (.mk1 ?_ rfl rfl))
  subst p3
  exact .ro p4 p2 q3 (Nat.le_refl _) .nil

/-- an array of one's own, as a slice -/
theorem op_slice_box (ok : EnvOk2 E) (R : Rel E s N a.tmps w ι St) (t : TypeId) (x : Operand) (lo hi : Option Operand) (ho : o.op = .slice t x lo hi none) {m : Nat} {p : List Step} (hx : s.ev E t x = .ptr m p) {q : A U} (hm : s.h m = .box q) {n e : Nat} (ht : E.ty t = .arr n e) (hne : isNo (E.ty e) = false)
    {i j : Int} (h1 : optI 0 (lo.map (s.ev E 0)) = some i) (h2 : optI (n : Int) (hi.map (s.ev E 0)) = some j) (b0 : 0 ≤ i) (b1 : i ≤ j) (b2 : j ≤ (n : Int)) :
    Ops E s N a w ι St b o [] (.bsl m p e n i.toNat (j - i).toNat) := by
  have hv := ev_ok ok R t x
  rw [hx] at hv
  obtain ⟨u, B, off, q1, q2, q3, q4⟩ := RV.ptr_inv hv
  have h0 := R.obj m
  rw [hm] at h0
  obtain ⟨B', cs, r1, r2, r3, r4, r5⟩ := h0
  rw [q1] at r1
  simp only [Option.some.injEq] at r1
  subst r1
  simp only [base, Option.some.injEq, Prod.mk.injEq] at q2
  obtain ⟨rfl, rfl⟩ := q2
  have i1 := optI_ok ok R 0 lo h1
  have i2 := optI_ok ok R _ hi h2
  have hne' : E.ty e ≠ .no := fun h => by rw [h] at hne; cases hne
  obtain ⟨inf, hinf, hs, -⟩ := ok.info e hne'
  have hb := bounds_run (E := E) (w := w) false n n (lo.map a.eval) (hi.map a.eval) i j i1 i2 b0 b1 b2 (Nat.le_refl _)
  have hrun : (Instr.sliceAt t (a.eval x) (lo.map a.eval) (hi.map a.eval) none).run E.P w = .ok (.slice (some (if n = i.toNat then ⟨B', 0 + po p, .none⟩ else ⟨B', 0 + po p + i.toNat * E.sz e, .none⟩)) (j.toNat - i.toNat) (n - i.toNat)) w := by
    rw [q4]
    simp [Instr.sliceAt, Instr.sureAddr, run_underlying (under_arr ok ht), hb, sizeOf, typeInfo, hinf, hs, Addr.add_eq]
  refine Ops.pure R (u := _) (by simp only [execOp, ho, Option.map_none]; rw [Sem.run_bind, hrun]; rfl) (RT.of_rv (.mk1 ?_ rfl rfl))
  rw [show j.toNat - i.toNat = (j - i).toNat by omega]
  refine .bsl q1 (by omega) (by omega) (by omega) ?_ q3 .nil
  by_cases h : n = i.toNat
  · exact .inl (by omega)
  · rw [if_neg h, Nat.zero_add]; exact .inr rfl

/-- a slice of nothing -/
theorem op_buildSlice0 (ok : EnvOk2 E) (R : Rel E s N a.tmps w ι St) (hb : ι b = none) (hd : isLive (s.h b) = false) (t e : TypeId) (n : Nat) (ps : Array (Nat × Operand)) (ho : o.op = .buildSlice t n ps) (ht : E.ty t = .sl e) (hne : isNo (E.ty e) = false) (hn : n = 0) (hp : ps.toList = []) :
    Ops E s N a w ι St b o [(b, .lst e [])] (.own b) := by
  have hne' : E.ty e ≠ .no := fun h => by rw [h] at hne; cases hne
  obtain ⟨inf, hinf, hs, -⟩ := ok.info e hne'
  obtain rfl : ps = #[] := Array.toList_eq_nil_iff.1 hp
  subst hn
  have hrun : (Instr.buildSlice t 0 #[]).run E.P w = .ok (.slice (some ⟨w.heap.size, 0, .none⟩) 0 0) (w.alloc (.cells #[] e)) := by
    simp [Instr.buildSlice, run_underlying (under_sl ok ht), sizeOf, typeInfo, hinf, Instr.fill, newRow, run_newObj_alloc, Sem.run_bind, Result.andThen]
    congr 2
    exact Array.toList_inj.1 (by simp)
  refine Ops.fresh R hb hd (u := .slice (some ⟨w.heap.size, 0, .none⟩) 0 0) (x := .slice (some ⟨w.heap.size, 0, .none⟩) 0 0) (w' := w.alloc (.cells #[] e)) ?_ (Fr.alloc _ _ _) (.inl (by unfold blk; rw [base_zero]; rfl)) (.inl ⟨⟨_, rfl⟩, rfl⟩) (RT.of_rv (.mk1 (.own (upd_same _ _ _) .nil) rfl rfl))
  simp only [execOp, ho]
  rw [Sem.run_bind]
  rw [Array.map_empty, hrun]
  rfl

theorem run_equal_nil {P : Program} (w : World) {t e : TypeId} (h : P.underlying t = some (.slice e)) (a' : Option Addr) (n cap : Nat) : (Op.equal t (.slice a' n cap) (.slice none 0 0)).run P w = .ok a'.isNone w := by
  show (Op.equalIn (9999 + 1) t _ _).run P w = _
  unfold Op.equalIn
  cases a' <;> simp [run_underlying h]

/-- is a slice nil? if it is, it holds nothing -/
theorem op_nil (ok : EnvOk2 E) (R : Rel E s N a.tmps w ι St) (op : BinOp) (t ty : TypeId) (x y : Operand) (ho : o.op = .binOp op t x y ty) {c : Nat} (ht : slOf E t c = true) {q : Cont U} (hx : content E s.h (s.ev E t x) = some q) (hb : isBsl (s.ev E t x) = false) (hy : a.eval y = .slice .none 0 0) :
    ∃ r : Bool, (r = true → q.l = []) ∧ (op = .eql → Ops E s N a w ι St b o [] (.bool r)) ∧ (op = .neq → Ops E s N a w ι St b o [] (.bool (!r))) := by
  obtain ⟨t1, t2⟩ := slOf_iff ok ht
  have hv := ev_ok ok R t x
  have key : ∃ a' n cap, a.eval x = .slice a' n cap ∧ (a' = none → q.l = []) := by
    cases hu : s.ev E t x with
    | nils c' =>
      rw [hu] at hx hv
      obtain rfl := Option.some.inj hx
      exact ⟨_, _, _, RV.nils_inv hv, fun _ => rfl⟩
    | ro g c' l' =>
      rw [hu] at hx hv
      obtain rfl := Option.some.inj hx
      obtain ⟨a', cap, h1, h2⟩ := RV.ro_inv hv
      refine ⟨_, _, _, h1, fun e => ?_⟩
      rcases h2 with h | ⟨ds, B, off, rfl, -⟩
      · exact h
      · cases e
    | clip g c' l' =>
      rw [hu] at hx hv
      obtain rfl := Option.some.inj hx
      obtain ⟨a', h1, h2⟩ := RV.clip_inv hv
      refine ⟨_, _, _, h1, fun e => ?_⟩
      rcases h2 with h | ⟨ds, B, off, rfl, -⟩
      · exact h
      · cases e
    | own m =>
      rw [hu] at hx hv
      obtain ⟨a', L, C, h1, h2⟩ := RV.own_inv hv
      have key : s.h m = .lst q.c q.l ∨ s.h m = .fz q.c q.l := by
        cases hm : s.h m with
        | lst c' l' => simp only [content, hm] at hx; obtain rfl := Option.some.inj hx; exact .inl rfl
        | fz c' l' => simp only [content, hm] at hx; obtain rfl := Option.some.inj hx; exact .inr rfl
        | dead => simp [content, hm] at hx
        | box q => simp [content, hm] at hx
        | lp lf lk live vals j => simp [content, hm] at hx
      obtain ⟨rfl, h3⟩ := R.own_at key h2
      refine ⟨_, _, _, h1, fun e => ?_⟩
      rcases h3 with h | ⟨B, off, ds, rfl, -⟩
      · exact h
      · cases e
    | sub m c' i len => rw [hu] at hb; cases hb
    | bsl m p c' M i len => rw [hu] at hb; cases hb
    | _ => rw [hu] at hx; simp [content] at hx
  obtain ⟨a', n, cap, h1, h2⟩ := key
  refine ⟨a'.isNone, fun h => h2 (by simpa using h), fun e => ?_, fun e => ?_⟩
  · subst e
    refine Ops.pure R (u := .bool a'.isNone) ?_ (RT.of_rv (.mk1 (.bool .nil) rfl rfl))
    simp [execOp, ho, h1, hy, eqGuard, binOp, run_equal_nil w (under_sl ok t1)]
  · subst e
    refine Ops.pure R (u := .bool (!a'.isNone)) ?_ (RT.of_rv (.mk1 (.bool .nil) rfl rfl))
    simp [execOp, ho, h1, hy, eqGuard, binOp, run_equal_nil w (under_sl ok t1)]
end
end Go.V

/- V: comparing whole values; bytes and strings; the greater and the lesser. -/
set_option linter.unusedVariables false
set_option linter.unusedSimpArgs false
namespace Go.V
variable {U : Nat → Type}
section
variable {E : Env U} {w : World} {St : Ck U → Nat → Prop} {ι : Nat → Option Value} {s : S U} {N : Nat} {a : Act} {b : Nat} {o : Oper}

/-- two plain values -/
theorem eqV_plain (ok : EnvOk2 E) {m : Nat} {t : TypeId} (ht : plainTy (E.ty t) = true) {p q : A U} {r : Bool} {x y : Value} (h : eqV E (m + 1) t p q = some r) (hx : RV E w St ι p x) (hy : RV E w St ι q y) (d : Nat) :
    (Op.equalIn (d + 1) t x y).run E.P w = .ok r w := by
  have hu := ok.under t
  unfold eqV at h
  cases hty : E.ty t with
  | int k0 =>
    rw [hty] at h hu
    simp only [tyOk] at hu
    cases p <;> try (simp at h; done)
    cases q <;> try (simp at h; done)
    rename_i k n k' n'
    simp only [] at h
    by_cases e : k = k'
    · subst e
      simp only [decide_true, cond_true, Option.some.injEq] at h
      subst h
      rw [RV.int_inv hx, RV.int_inv hy, run_equalIn_int w d t k k0 n n' hu]
      congr 1
    · simp [e] at h
  | bool =>
    rw [hty] at h hu
    simp only [tyOk] at hu
    cases p <;> try (simp at h; done)
    cases q <;> try (simp at h; done)
    simp only [Option.some.injEq] at h
    subst h
    rw [RV.bool_inv hx, RV.bool_inv hy, run_equalIn_bool w d t _ _ hu]
  | str =>
    rw [hty] at h hu
    simp only [tyOk] at hu
    cases p <;> try (simp at h; done)
    cases q <;> try (simp at h; done)
    simp only [Option.some.injEq] at h
    subst h
    rw [RV.str_inv hx, RV.str_inv hy, run_equalIn_string w d t _ _ hu, toList_eq_iff]
  | _ => rw [hty] at ht; simp [plainTy] at ht
theorem eqV_fits (ok : EnvOk2 E) {m : Nat} {t : TypeId} (ht : plainTy (E.ty t) = true) {x y : U t} {r : Bool} (h : eqV E (m + 1) t (E.enc t x) (E.enc t y) = some r) : fits E t (E.enc t x) = true ∧ fits E t (E.enc t y) = true := by
  have h1 := ok.encSize t x
  have h2 := ok.encSize t y
  unfold eqV at h
  revert h h1 h2
  generalize E.enc t x = p
  generalize E.enc t y = q
  intro h1 h2 h
  cases hty : E.ty t with
  | int k0 =>
    rw [hty] at h
    cases p <;> try (simp at h; done)
    cases q <;> try (simp at h; done)
    simp only [fits, known, isAgg, hty, rowTy, isNo, ← h1]
    simp [size, h2]
  | bool =>
    rw [hty] at h
    cases p <;> try (simp at h; done)
    cases q <;> try (simp at h; done)
    simp only [fits, known, isAgg, hty, rowTy, isNo, ← h1]
    simp [size, h2]
  | str =>
    rw [hty] at h
    cases p <;> try (simp at h; done)
    cases q <;> try (simp at h; done)
    simp only [fits, known, isAgg, hty, rowTy, isNo, ← h1]
    simp [size, h2]
  | _ => rw [hty] at ht; simp [plainTy] at ht

/-- two rows of plain values -/
theorem eqItems_run (ok : EnvOk2 E) {e : TypeId} (he : plainTy (E.ty e) = true) {l1 l2 : List (U e)} {xs ys : Array Value} (h1 : RC E w St ι (l1.map (E.enc e)) xs.toList []) (h2 : RC E w St ι (l2.map (E.enc e)) ys.toList []) (hl : l1.length = l2.length) (d : Nat) :
    ∀ (is : List Nat), (∀ i ∈ is, i < l1.length) → ∃ r, (Op.eqItems (d + 1) e (E.P.cellsOf e) xs ys is).run E.P w = .ok r w ∧ (r = true ↔ ∀ i ∈ is, l1[i]? = l2[i]?)
  | [], _ => ⟨true, by simp [Op.eqItems], by simp⟩
  | i :: is, h => by
    obtain ⟨r', hr', hiff⟩ := eqItems_run ok he h1 h2 hl d is fun j hj => h j (by simp [hj])
    have hi := h i (by simp)
    have hi2 : i < l2.length := by omega
    have hne : E.ty e ≠ .no := by intro e0; rw [e0] at he; simp [plainTy] at he
    obtain ⟨j, hj, hs, -⟩ := ok.info e hne
    have hc : E.P.cellsOf e = E.sz e := by simp [Program.cellsOf, hj, hs]
    obtain ⟨r1, -⟩ := h1.elem ok.toEnvOk hi
    obtain ⟨r2, -⟩ := h2.elem ok.toEnvOk hi2
    obtain ⟨r, hr, hri⟩ := (ok.eqA e he).2 (l1.getD i (E.dflt e)) (l2.getD i (E.dflt e))
    have f1 : fits E e (E.enc e (l1.getD i (E.dflt e))) = true ∧ fits E e (E.enc e (l2.getD i (E.dflt e))) = true := eqV_fits ok he hr
    rw [← ok.encSize e (l1.getD i (E.dflt e))] at r1
    rw [← ok.encSize e (l2.getD i (E.dflt e))] at r2
    obtain ⟨x, p1, p2⟩ := part_run ok f1.1 r1
    obtain ⟨y, q1, q2⟩ := part_run ok f1.2 r2
    rw [ok.encSize] at p1 q1
    have hrun := eqV_plain ok he hr p2 q2 d
    rw [hc] at hr' ⊢
    have e1 : l1[i]? = some (l1.getD i (E.dflt e)) := by simp [List.getD, hi]
    have e2 : l2[i]? = some (l2.getD i (E.dflt e)) := by simp [List.getD, hi2]
    simp only [Op.eqItems, Sem.run_bind, p1, q1, Result.andThen_ok, hrun]
    cases r with
    | false =>
      refine ⟨false, by simp, ?_⟩
      simp only [Bool.false_eq_true, false_iff]
      intro hall
      have := hall i (by simp)
      rw [e1, e2] at this
      exact absurd (hri.2 (Option.some.inj this)) (by simp)
    | true =>
      refine ⟨r', by simpa using hr', ?_⟩
      rw [hiff]
      have := hri.1 rfl
      constructor
      · intro h j hj
        rcases List.mem_cons.1 hj with rfl | hj
        · rw [e1, e2, this]
        · exact h j hj
      · intro h j hj
        exact h j (by simp [hj])

theorem eqFields_run (ok : EnvOk2 E) {q : TypeId → A U → A U → Option Bool} {d : Nat} (IH : ∀ t p p' r x y, q t p p' = some r → RV E w St ι p x → RV E w St ι p' y → (Op.equalIn d t x y).run E.P w = .ok r w) (xs ys : Array Value) :
    ∀ (fields : List Field) (l1 l2 : List (A U)) (k : Nat) (r : Bool), (∀ f ∈ fields, f.name ≠ "_") → eqFs E q (fields.map fun f => (f.type, f.offset)) l1 l2 k = some r → RC E w St ι l1 (xs.toList.drop k) [] → RC E w St ι l2 (ys.toList.drop k) [] →
      (Op.eqFields d xs ys fields).run E.P w = .ok r w
  | [], l1, l2, k, r, _, h, _, _ => by
    cases l1 <;> cases l2 <;> simp [eqFs] at h
    subst h
    simp [Op.eqFields]
  | f :: fields, l1, l2, k, r, hn, h, h1, h2 => by
    cases l1 with
    | nil => simp [eqFs] at h
    | cons p l1 =>
      cases l2 with
      | nil => simp [eqFs] at h
      | cons p' l2 =>
        simp only [List.map_cons, eqFs] at h
        cases hb : (Nat.beq f.offset k && (fits E f.type p && fits E f.type p')) with
        | false => rw [hb] at h; simp at h
        | true =>
          rw [hb] at h
          simp only [cond_true] at h
          simp only [Bool.and_eq_true] at hb
          obtain ⟨e0, f1, f2⟩ := hb
          have e0 := Nat.eq_of_beq_eq_true e0
          cases hq : q f.type p p' with
          | none => rw [hq] at h; simp at h
          | some r1 =>
            rw [hq] at h
            cases hr : eqFs E q (fields.map fun f => (f.type, f.offset)) l1 l2 (k + size E.sz p) with
            | none => rw [hr] at h; simp at h
            | some r2 =>
              rw [hr] at h
              obtain rfl := Option.some.inj h
              have piece : ∀ {v : A U} {l : List (A U)} {zs : Array Value}, RC E w St ι (v :: l) (zs.toList.drop k) [] → RC E w St ι [v] ((zs.toList.drop k).take (size E.sz v)) [] ∧ RC E w St ι l (zs.toList.drop (k + size E.sz v)) [] := by
                intro v l zs h
                obtain ⟨c1, c2, b1, b2, hc, hb, h1, h2⟩ := RC.cons_inv h
                obtain ⟨rfl, rfl⟩ := nil_or hb
                have hl := h1.length ok.toEnvOk
                simp only [sizes, Nat.add_zero] at hl
                rw [← List.drop_drop, hc, ← hl]
                simpa using ⟨h1, h2⟩
              obtain ⟨a1, a2⟩ := piece h1
              obtain ⟨b1, b2⟩ := piece h2
              have es : size E.sz p = size E.sz p' := ((fits_iff f1).2.1).trans ((fits_iff f2).2.1).symm
              have hk : f.offset = k := e0
              obtain ⟨x, p1, p2⟩ := part_run (cs := xs) (off := f.offset) ok f1 (by rw [hk]; exact a1)
              obtain ⟨y, q1, q2⟩ := part_run (cs := ys) (off := f.offset) ok f2 (by rw [hk]; exact b1)
              have hrun := IH _ _ _ _ _ _ hq p2 q2
              have hnm := hn f (by simp)
              have ih := eqFields_run ok IH xs ys fields l1 l2 (k + size E.sz p) r2 (fun g hg => hn g (by simp [hg])) hr a2 (by rw [es]; exact b2)
              simp only [Op.eqFields, hnm, ne_eq, not_false_eq_true, if_true, Sem.run_bind, p1, q1, Result.andThen_ok, hrun]
              cases r1
              · simp
              · simpa using ih

theorem memN_mem {n : Nat} {l : List Nat} : memN n l = true ↔ n ∈ l := by
  induction l with
  | nil => simp [memN]
  | cons m l ih =>
    simp only [memN, Bool.or_eq_true, ih, List.mem_cons]
    constructor
    · rintro (h | h)
      · exact .inl (Nat.eq_of_beq_eq_true h).symm
      · exact .inr h
    · rintro (rfl | h)
      · exact .inl (Nat.beq_refl _)
      · exact .inr h

theorem eqV_run (ok : EnvOk2 E) : ∀ (m : Nat) (t : TypeId) (p q : A U) (r : Bool) (x y : Value), eqV E m t p q = some r → RV E w St ι p x → RV E w St ι q y → ∀ d, m ≤ d → (Op.equalIn d t x y).run E.P w = .ok r w
  | 0, t, p, q, r, x, y, h, _, _, _, _ => by simp [eqV] at h
  | m + 1, t, p, q, r, x, y, h, hx, hy, d, hd => by
    obtain ⟨d, rfl⟩ := Nat.exists_eq_succ_of_ne_zero (n := d) (by omega)
    cases hp : plainTy (E.ty t) with
    | true => exact eqV_plain ok hp h hx hy d
    | false =>
      have hu := ok.under t
      unfold eqV at h
      cases hty : E.ty t with
      | int k => rw [hty] at hp; simp [plainTy] at hp
      | bool => rw [hty] at hp; simp [plainTy] at hp
      | str => rw [hty] at hp; simp [plainTy] at hp
      | no => rw [hty] at h; simp at h
      | func => rw [hty] at h; simp at h
      | sl e => rw [hty] at h; simp at h
      | ptr e =>
        rw [hty] at h hu
        simp only [tyOk] at hu
        have nn : ∀ v : Value, RV E w St ι (.nilp : A U) v → v = .pointer .none := fun v h => RV.nilp_inv h
        cases p <;> try (simp at h; done)
        · cases q <;> try (simp at h; done)
          · obtain rfl := Option.some.inj h
            rw [RV.nilp_inv hx, RV.nilp_inv hy]
            simp [Op.equalIn, run_underlying hu]
          · obtain rfl := Option.some.inj h
            obtain ⟨u, B, off, -, -, -, rfl⟩ := RV.ptr_inv hy
            rw [RV.nilp_inv hx]
            simp [Op.equalIn, run_underlying hu]
          · obtain rfl := Option.some.inj h
            obtain ⟨ds, B, off, -, -, -, -, -, rfl⟩ := RV.rp_inv hy
            rw [RV.nilp_inv hx]
            simp [Op.equalIn, run_underlying hu]
        · cases q <;> try (simp at h; done)
          · obtain rfl := Option.some.inj h
            obtain ⟨u, B, off, -, -, -, rfl⟩ := RV.ptr_inv hx
            rw [RV.nilp_inv hy]
            simp [Op.equalIn, run_underlying hu]
          · rename_i c' z' pp'
            cases z' with
            | node _ _ _ _ => cases pp' <;> (simp at h; done)
            | nil =>
              cases pp' with
              | cons _ _ => simp at h
              | nil =>
                obtain rfl := Option.some.inj h
                obtain ⟨u, B, off, -, -, -, rfl⟩ := RV.ptr_inv hx
                obtain rfl : y = .pointer .none := by
                  rcases RV.tr_inv hy with ⟨-, -, h⟩ | ⟨h, -⟩
                  · exact h
                  · cases h
                simp [Op.equalIn, run_underlying hu]
        · cases q <;> try (simp at h; done)
          obtain rfl := Option.some.inj h
          obtain ⟨ds, B, off, -, -, -, -, -, rfl⟩ := RV.rp_inv hx
          rw [RV.nilp_inv hy]
          simp [Op.equalIn, run_underlying hu]
        · rename_i c z pp
          cases pp with
          | cons _ _ => cases q <;> (simp at h; done)
          | nil =>
            cases q <;> try (simp at h; done)
            rename_i c' z' pp'
            cases pp' with
            | cons _ _ => cases z' <;> (simp at h; done)
            | nil =>
              cases z' with
              | node _ _ _ _ => simp at h
              | nil =>
                obtain rfl := Option.some.inj h
                obtain rfl : y = .pointer .none := by
                  rcases RV.tr_inv hy with ⟨-, -, h⟩ | ⟨h, -⟩
                  · exact h
                  · cases h
                rcases RV.tr_inv hx with ⟨rfl, -, rfl⟩ | ⟨h, -, B, rfl, -⟩
                · simp [Op.equalIn, run_underlying hu, KT.isNil]
                · rw [h]; simp [Op.equalIn, run_underlying hu]
      | arr n e =>
        rw [hty] at h hu
        simp only [tyOk] at hu
        cases p <;> try (simp at h; done)
        cases q <;> try (simp at h; done)
        rename_i c n1 l1 c' n2 l2
        simp only [] at h
        split at h
        · rename_i hcc
          subst hcc
          cases hb : ((Nat.blt 0 m && memN t E.eqs) && ((Nat.beq c' e && Nat.beq n1 n) && (Nat.beq n2 n && plainTy (E.ty e)))) with
          | false => rw [hb] at h; simp at h
          | true =>
            rw [hb] at h
            simp only [cond_true, Option.some.injEq] at h
            simp only [Bool.and_eq_true] at hb
            obtain ⟨⟨h0, -⟩, ⟨e1, e2⟩, e3, he⟩ := hb
            have h0 : 0 < m := by simpa using h0
            have e1 := Nat.eq_of_beq_eq_true e1
            have e2 := Nat.eq_of_beq_eq_true e2
            have e3 := Nat.eq_of_beq_eq_true e3
            subst e1; subst e2; subst e3
            obtain ⟨xs, rfl, len1, rc1⟩ := RV.arr_inv hx
            obtain ⟨ys, rfl, len2, rc2⟩ := RV.arr_inv hy
            have hne : E.ty c' ≠ .no := by intro e0; rw [e0] at he; simp [plainTy] at he
            obtain ⟨j, hj, -⟩ := ok.info c' hne
            obtain ⟨d, rfl⟩ := Nat.exists_eq_succ_of_ne_zero (n := d) (by omega)
            obtain ⟨r', hr', hiff⟩ := eqItems_run ok he rc1 rc2 (len1.trans len2.symm) d (List.range n2) (fun i hi => by simpa [len1] using hi)
            rw [run_equalIn_array w (d + 1) xs ys hu hj, hr']
            congr 1
            rw [Bool.eq_iff_iff, hiff, ← h, ((ok.eqA c' he).1 l1 l2)]
            constructor
            · intro hall
              refine List.ext_getElem? fun i => ?_
              by_cases hi : i < n2
              · exact hall i (by simpa using hi)
              · rw [List.getElem?_eq_none (by omega), List.getElem?_eq_none (by omega)]
            · rintro rfl i hi; rfl
        · simp at h
      | st fs =>
        obtain ⟨fields, hf, rfl⟩ := under_st ok hty
        rw [hty] at h
        cases p <;> try (simp at h; done)
        cases q <;> try (simp at h; done)
        rename_i l1 l2
        simp only [] at h
        cases hb : memN t E.eqs with
        | false => rw [hb] at h; simp at h
        | true =>
          rw [hb] at h
          simp only [cond_true] at h
          obtain ⟨xs, rfl, rc1⟩ := RV.agg_inv hx
          obtain ⟨ys, rfl, rc2⟩ := RV.agg_inv hy
          have hq := ok.eqT
          unfold eqsOk at hq
          rw [List.all_eq_true] at hq
          have hq := hq t (memN_mem.1 hb)
          rw [hf] at hq
          simp only [Bool.and_eq_true, Bool.not_eq_true', List.all_eq_true, beq_eq_false_iff_ne, ne_eq] at hq
          have hfo : E.P.fieldsOf t = fields := by simp [Program.fieldsOf, hf]
          rw [run_equalIn_struct w d t xs ys (by rw [hfo]; exact hf) hq.2.2, hfo]
          exact eqFields_run ok (fun t p p' r x y h1 h2 h3 => eqV_run ok m t p p' r x y h1 h2 h3 d (by omega)) xs ys fields.toList l1 l2 0 r (fun f hf => hq.2.1 f hf) h (by simpa using rc1) (by simpa using rc2)


/-- where a slice's elements lie -/
def SrcAt (E : Env U) (w : World) (St : Ck U → Nat → Prop) (ι : Nat → Option Value) (c : Nat) (x : Value) (l : List (U c)) : Prop :=
  ∃ a' cap, x = .slice a' l.length cap ∧ (l = [] ∨ ∃ B off ds, a' = some ⟨B, off, .none⟩ ∧ RC E w St ι (l.map (E.enc c)) ds [] ∧ w.rangeAt B off ds)
theorem at_nil {c : Nat} (cap : Nat) : SrcAt E w St ι c (.slice .none 0 cap) [] := ⟨_, _, rfl, .inl rfl⟩
theorem at_empty {c : Nat} (a' : Option Addr) (cap : Nat) : SrcAt E w St ι c (.slice a' 0 cap) [] := ⟨_, _, rfl, .inl rfl⟩
theorem at_cells {c : Nat} {B off cap : Nat} {l : List (U c)} {ds : List Value} (h : RC E w St ι (l.map (E.enc c)) ds []) (hr : w.rangeAt B off ds) : SrcAt E w St ι c (.slice (some ⟨B, off, .none⟩) l.length cap) l :=
  ⟨_, _, rfl, .inr ⟨B, off, ds, rfl, h, hr⟩⟩
theorem content_at (ok : EnvOk2 E) (R : Rel E s N a.tmps w ι St) {y : A U} {v : Value} (hv : RT E w St ι y v) {q : Cont U} (hc : content E s.h y = some q) :
    SrcAt E w St ι q.c v q.l := by
  cases y with
  | nils c' =>
    obtain rfl := Option.some.inj hc
    rw [RV.nils_inv hv]
    exact at_nil 0
  | ro g c' l' =>
    obtain rfl := Option.some.inj hc
    obtain ⟨a', cap, h1, h2⟩ := RV.ro_inv hv
    rcases h2 with rfl | ⟨ds, B, off, rfl, h3, h4, h5, h6⟩
    · rw [h1]; exact at_empty _ _
    · rw [h1]; exact at_cells h3 h4
  | clip g c' l' =>
    obtain rfl := Option.some.inj hc
    obtain ⟨a', h1, h2⟩ := RV.clip_inv hv
    rcases h2 with rfl | ⟨ds, B, off, rfl, h3, h4, h5⟩
    · rw [h1]; exact at_empty _ _
    · rw [h1]; exact at_cells h3 h4
  | own m =>
    obtain ⟨a', L, C, h1, h2⟩ := RV.own_inv hv
    have key : s.h m = .lst q.c q.l ∨ s.h m = .fz q.c q.l := by
      cases hm : s.h m with
      | lst c' l' =>
        simp only [content, hm] at hc
        obtain rfl := Option.some.inj hc
        exact .inl rfl
      | fz c' l' =>
        simp only [content, hm] at hc
        obtain rfl := Option.some.inj hc
        exact .inr rfl
      | dead => simp [content, hm] at hc
      | lp lf lid live vals j => simp [content, hm] at hc
      | box q => simp [content, hm] at hc
    obtain ⟨rfl, q⟩ := R.own_at key h2
    rcases q with e0 | ⟨B, off, ds, rfl, q1, q2, q3⟩
    · rw [h1, e0]; exact at_empty _ _
    · rw [h1]; exact at_cells q1 q2
  | sub m c i len =>
    obtain ⟨a0, a1, L, C, cap, r1, r2, r3, r4, r5, r6⟩ := RV.sub_inv hv
    have key : ∃ l', (s.h m = .lst c l' ∨ s.h m = .fz c l') ∧ q = ⟨[m], c, cut l' i len⟩ := by
      cases hm : s.h m with
      | lst c' l' =>
        simp only [content, hm] at hc
        cases hb : Nat.beq c' c with
        | false => rw [hb] at hc; simp at hc
        | true =>
          rw [hb] at hc
          have := Nat.eq_of_beq_eq_true hb
          subst this
          obtain rfl := Option.some.inj hc
          exact ⟨l', .inl rfl, rfl⟩
      | fz c' l' =>
        simp only [content, hm] at hc
        cases hb : Nat.beq c' c with
        | false => rw [hb] at hc; simp at hc
        | true =>
          rw [hb] at hc
          have := Nat.eq_of_beq_eq_true hb
          subst this
          obtain rfl := Option.some.inj hc
          exact ⟨l', .inr rfl, rfl⟩
      | dead => simp [content, hm] at hc
      | lp lf lid live vals j => simp [content, hm] at hc
      | box q => simp [content, hm] at hc
    obtain ⟨l', h1, rfl⟩ := key
    obtain ⟨rfl, q⟩ := R.own_at h1 r1
    have hlen : (cut l' i len).length = len := by simp only [cut, List.length_take, List.length_drop]; omega
    rw [r6]
    by_cases hz : len = 0
    · have : cut l' i len = [] := List.eq_nil_of_length_eq_zero (by omega)
      simp only [this]
      rw [hz]
      exact at_empty _ _
    · rcases q with rfl | ⟨B, off, ds, rfl, q1, q2, q3⟩
      · simp at r2; omega
      · have ha := r5.resolve_left (by omega)
        simp only [Option.map_some, Addr.add_eq] at ha
        subst ha
        obtain ⟨es, p1, p2⟩ := cut_cells ok.toEnvOk q1 q2 r2
        have := at_cells (cap := cap) p1 p2
        rw [hlen] at this
        exact this
  | bsl m p c M i len =>
    obtain ⟨B, a1, cap, r1, r2, r3, r4, r5, r6, r7⟩ := RV.bsl_inv hv
    cases hm : s.h m with
    | box q0 =>
      simp only [content, hm] at hc
      cases hg : getP E q0 p with
      | arr c' M' l' =>
        rw [hg] at hc
        cases hb : (Nat.beq c c' && Nat.beq M M') with
        | false => simp [hb] at hc
        | true =>
          simp only [hb, cond_true] at hc
          simp only [Bool.and_eq_true] at hb
          have e1 := Nat.eq_of_beq_eq_true hb.1
          have e2 := Nat.eq_of_beq_eq_true hb.2
          subst e1; subst e2
          obtain rfl := Option.some.inj hc
          have h0 := R.obj m
          rw [hm] at h0
          obtain ⟨B', cs, h1, h2, h3, h4, h5⟩ := h0
          rw [r1] at h1
          simp only [Option.some.injEq, Value.pointer.injEq, Addr.mk.injEq, and_true] at h1
          subst h1
          obtain ⟨g1, g2⟩ := h2.getP ok.toEnvOk p r6 (by rw [hg]; rfl)
          rw [hg] at g1 g2
          obtain ⟨g3, g4, -⟩ := g1.arr_inv
          have hlen : (cut l' i len).length = len := by simp only [cut, List.length_take, List.length_drop]; omega
          rw [r7]
          by_cases hz : len = 0
          · have : cut l' i len = [] := List.eq_nil_of_length_eq_zero (by omega)
            simp only [this]
            rw [hz]
            exact at_empty _ _
          · have ha := r5.resolve_left (by omega)
            subst ha
            have hr := rangeAt_sub h3 (po p) (size E.sz (.arr c M l' : A U))
            rw [Nat.zero_add] at hr
            obtain ⟨es, p1, p2⟩ := cut_cells ok.toEnvOk g4 hr (by omega : i + len ≤ l'.length)
            have := at_cells (cap := cap) p1 p2
            rw [hlen] at this
            exact this
      | none => simp [hg] at hc
      | int => simp [hg] at hc
      | bool => simp [hg] at hc
      | str => simp [hg] at hc
      | nilp => simp [hg] at hc
      | nilf => simp [hg] at hc
      | agg => simp [hg] at hc
      | nils => simp [hg] at hc
      | ro => simp [hg] at hc
      | clip => simp [hg] at hc
      | usl => simp [hg] at hc
      | own => simp [hg] at hc
      | sub => simp [hg] at hc
      | bsl => simp [hg] at hc
      | ptr => simp [hg] at hc
      | yld => simp [hg] at hc
      | tr c9 x9 p9 => simp [hg] at hc
      | gh g9 => simp [hg] at hc
      | rp => simp [hg] at hc
      | clo => simp [hg] at hc
      | tup => simp [hg] at hc
    | dead => simp [content, hm] at hc
    | lp lf lid live vals j => simp [content, hm] at hc
    | lst => simp [content, hm] at hc
    | fz => simp [content, hm] at hc
  | none => simp [content] at hc
  | int => simp [content] at hc
  | bool => simp [content] at hc
  | str => simp [content] at hc
  | nilp => simp [content] at hc
  | nilf => simp [content] at hc
  | agg => simp [content] at hc
  | arr => simp [content] at hc
  | usl => simp [content] at hc
  | ptr => simp [content] at hc
  | yld => simp [content] at hc
  | tr c9 x9 p9 => simp [content] at hc
  | gh g9 => simp [content] at hc
  | rp => simp [content] at hc
  | clo => simp [content] at hc
  | tup => simp [content] at hc

def isPt : A U → Bool
  | .nilp | .ptr .. | .rp .. | .tr .. => true
  | _ => false
theorem eqV_forms {m : Nat} {t : TypeId} {p q : A U} {r : Bool} (hp : plainTy (E.ty t) = false) (h : eqV E (m + 1) t p q = some r) : (isAgg p = true ∧ isAgg q = true ∧ memN t E.eqs = true) ∨ (isPt p = true ∧ isPt q = true) := by
  unfold eqV at h
  cases hty : E.ty t with
  | int k => rw [hty] at hp; simp [plainTy] at hp
  | bool => rw [hty] at hp; simp [plainTy] at hp
  | str => rw [hty] at hp; simp [plainTy] at hp
  | no => rw [hty] at h; simp at h
  | func => rw [hty] at h; simp at h
  | sl e => rw [hty] at h; simp at h
  | ptr e =>
    rw [hty] at h
    cases p <;> cases q <;> first | (simp at h; done) | exact .inr ⟨rfl, rfl⟩
  | arr n e =>
    rw [hty] at h
    cases p <;> cases q <;> first | (simp at h; done) | skip
    simp only [] at h
    split at h
    · cases hb : memN t E.eqs with
      | false => rw [hb] at h; simp at h
      | true => exact .inl ⟨rfl, rfl, rfl⟩
    · simp at h
  | st fs =>
    rw [hty] at h
    cases p <;> cases q <;> first | (simp at h; done) | skip
    cases hb : memN t E.eqs with
    | false => rw [hb] at h; simp at h
    | true => exact .inl ⟨rfl, rfl, rfl⟩
theorem op_eq (ok : EnvOk2 E) (R : Rel E s N a.tmps w ι St) (op : BinOp) (t ty : TypeId) (x y : Operand) (ho : o.op = .binOp op t x y ty) (hp : plainTy (E.ty t) = false) {r : Bool} (he : eqV E 20 t (s.ev E t x) (s.ev E ty y) = some r) {v : A U} (hv : op = .eql ∧ v = .bool r ∨ op = .neq ∧ v = .bool (!r)) :
    Ops E s N a w ι St b o [] v := by
  have hforms := eqV_forms hp he
  have k12 : known (s.ev E t x) = true ∧ known (s.ev E ty y) = true := by
    rcases hforms with ⟨h1, h2, -⟩ | ⟨h1, h2⟩
    · constructor
      · revert h1; cases s.ev E t x <;> simp [isAgg, known]
      · revert h2; cases s.ev E ty y <;> simp [isAgg, known]
    · constructor
      · revert h1; cases s.ev E t x <;> simp [isPt, known]
      · revert h2; cases s.ev E ty y <;> simp [isPt, known]
  have h1 := (ev_ok ok R t x).rv k12.1
  have h2 := (ev_ok ok R ty y).rv k12.2
  have hrun := eqV_run ok 20 t _ _ r _ _ he h1 h2 10000 (by omega)
  have fin : ((eqGuard op t x y (a.eval x) (a.eval y)).run E.P w = .ok () w) → ((binOp op t (a.eval x) (a.eval y)).run E.P w = .ok (.bool (cond (op == .neq) (!r) r)) w) → Ops E s N a w ι St b o [] v := by
    intro g1 g2
    rcases hv with ⟨rfl, rfl⟩ | ⟨rfl, rfl⟩
    · exact Ops.pure R (u := .bool r) (by simp only [execOp, ho, Sem.run_bind, g1, Result.andThen_ok, g2]; rfl) (RT.of_rv (.mk1 (.bool .nil) rfl rfl))
    · exact Ops.pure R (u := .bool (!r)) (by simp only [execOp, ho, Sem.run_bind, g1, Result.andThen_ok, g2]; rfl) (RT.of_rv (.mk1 (.bool .nil) rfl rfl))
  rcases hforms with ⟨q1, q2, q3⟩ | ⟨q1, q2⟩
  · obtain ⟨c1, e1⟩ : ∃ cs, a.eval x = .agg cs := by
      have := h1.2; rw [q1] at this
      revert this; cases a.eval x <;> simp [isAggV]
    obtain ⟨c2, e2⟩ : ∃ cs, a.eval y = .agg cs := by
      have := h2.2; rw [q2] at this
      revert this; cases a.eval y <;> simp [isAggV]
    rw [e1, e2] at hrun fin
    have hq := ok.eqT
    unfold eqsOk at hq
    rw [List.all_eq_true] at hq
    have hq := hq t (memN_mem.1 q3)
    simp only [Bool.and_eq_true, Bool.not_eq_true'] at hq
    refine fin ?_ ?_
    · rcases hv with ⟨rfl, -⟩ | ⟨rfl, -⟩ <;> simp [eqGuard, hq.1]
    · rcases hv with ⟨rfl, -⟩ | ⟨rfl, -⟩ <;> (simp only [binOp, Op.equal, Op.maxDepth, Sem.run_bind, hrun, Result.andThen_ok]; rfl)
  · have pt : ∀ {p : A U} {v : Value}, isPt p = true → RV E w St ι p v → ∃ a', v = .pointer a' := by
      intro p v hp h
      cases p <;> first | (simp [isPt] at hp; done) | skip
      · exact ⟨_, RV.nilp_inv h⟩
      · obtain ⟨_, _, _, -, -, -, e⟩ := RV.ptr_inv h; exact ⟨_, e⟩
      · obtain ⟨_, _, _, -, -, -, -, -, e⟩ := RV.rp_inv h; exact ⟨_, e⟩
      · rcases RV.tr_inv h with ⟨-, -, e⟩ | ⟨-, -, B, e, -⟩ <;> exact ⟨_, e⟩
    obtain ⟨c1, e1⟩ := pt q1 h1
    obtain ⟨c2, e2⟩ := pt q2 h2
    rw [e1, e2] at hrun fin
    refine fin ?_ ?_
    · rcases hv with ⟨rfl, -⟩ | ⟨rfl, -⟩ <;> simp [eqGuard]
    · rcases hv with ⟨rfl, -⟩ | ⟨rfl, -⟩ <;> (simp only [binOp, Op.equal, Op.maxDepth, Sem.run_bind, hrun, Result.andThen_ok]; rfl)

theorem foldl_push : ∀ (ns : List Int) (x : ByteArray), ns.foldl (fun r n => r.push (UInt8.ofNat n.toNat)) x = ⟨x.data ++ (ns.map fun n => UInt8.ofNat n.toNat).toArray⟩
  | [], x => by cases x; simp
  | n :: ns, x => by
    rw [List.foldl_cons, foldl_push ns]
    cases x
    simp [ByteArray.push]
theorem map_enc_int (ok : EnvOk2 E) {c : Nat} {l : List (U c)} {ns : List Int} (h : l.map (E.enc c) = ns.map (.int .u8)) {ds : List Value} (hr : RC E w St ι (l.map (E.enc c)) ds []) : ds = ns.map (.int .u8) := by
  rw [h] at hr
  clear h
  induction ns generalizing ds with
  | nil => cases hr; rfl
  | cons n ns ih =>
    simp only [List.map_cons] at hr ⊢
    cases hr with
    | int h => rw [ih h]

theorem op_bytes_str (ok : EnvOk2 E) (R : Rel E s N a.tmps w ι St) (t d : TypeId) (x : Operand) (ho : o.op = .convert t d x) (hd : E.ty d = .str) {q : Cont U} (hc : content E s.h (s.ev E t x) = some q) (hs : slOf E t q.c = true) {g : ByteArray} (hg : E.toBytes q.c q.l = some g) :
    Ops E s N a w ι St b o [] (.str g) := by
  obtain ⟨t1, t2⟩ := slOf_iff ok hs
  obtain ⟨t3, ns, e1, rfl⟩ := ok.toB _ _ _ hg
  have hu : E.P.underlying d = some .string := by have := ok.under d; rw [hd] at this; exact this
  have hu2 : E.P.underlying q.c = some (.int .u8) := by have := ok.under q.c; rw [t3] at this; exact this
  obtain ⟨a', cap, h1, h2⟩ := content_at ok R (ev_ok ok R t x) hc
  have hrun : (Conv.bytesToString (.slice a' q.l.length cap)).run E.P w = .ok (.string (bytesOf ns)) w := by
    have hlen : q.l.length = ns.length := by simpa using congrArg List.length e1
    rcases h2 with h2 | ⟨B, off, ds, rfl, h3, h4⟩
    · have hn : ns = [] := List.eq_nil_of_length_eq_zero (by rw [← hlen, h2]; rfl)
      subst hn
      cases a' with
      | none => simp [Conv.bytesToString, Sem.run_pure]; rfl
      | some x =>
        have := run_bytesToString (P := E.P) w x q.l.length cap [] (by rw [hlen]; simpa using run_loadCells_list (P := E.P) w x [] (by simp))
        rw [this]; rfl
    · have hds := map_enc_int ok e1 h3
      subst hds
      have := run_bytesToString (P := E.P) w ⟨B, off, .none⟩ q.l.length cap ns (by
        rw [hlen]
        have := run_loadCells_list (P := E.P) w ⟨B, off, .none⟩ (ns.map (.int .u8)) (fun j v hj => by rw [Addr.add_eq]; exact h4 j v hj)
        simpa using this)
      rw [this, foldl_push]
      simp [bytesOf, ByteArray.empty, ByteArray.emptyWithCapacity]
      try rfl
  refine Ops.pure R (u := .string (bytesOf ns)) ?_ (RT.of_rv (.mk1 (.str .nil) rfl rfl))
  simp only [execOp, ho, h1, Sem.run_bind, run_convert_bytes_string w t d q.c a' q.l.length cap (under_sl ok t1) hu2 hu, hrun, Result.andThen_ok]
  rfl
end
end Go.V

/- V: a string's bytes; the greater and the lesser; what is copied into an array. -/
set_option linter.unusedVariables false
set_option linter.unusedSimpArgs false
namespace Go.V
variable {U : Nat → Type}
section
variable {E : Env U} {w : World} {St : Ck U → Nat → Prop} {ι : Nat → Option Value} {s : S U} {N : Nat} {a : Act} {b : Nat} {o : Oper}

theorem rc_ints : ∀ (ns : List Int), RC E w St ι (ns.map (A.int .u8)) (ns.map (Value.int .u8)) []
  | [] => .nil
  | n :: ns => .int (rc_ints ns)

theorem op_str_bytes (ok : EnvOk2 E) (R : Rel E s N a.tmps w ι St) (hb : ι b = none) (hd : isLive (s.h b) = false) (t d : TypeId) (x : Operand) (ho : o.op = .convert t d x) {e : TypeId} (hde : E.ty d = .sl e) (ht : E.ty t = .str) {g : ByteArray} (hx : s.ev E t x = .str g) {l : List (U e)} (hl : E.ofBytes e g = some l) :
    Ops E s N a w ι St b o [(b, .lst e l)] (.own b) := by
  obtain ⟨t3, e1⟩ := ok.ofB _ _ _ hl
  have hu : E.P.underlying t = some .string := by have := ok.under t; rw [ht] at this; exact this
  have hu2 : E.P.underlying e = some (.int .u8) := by have := ok.under e; rw [t3] at this; exact this
  have hv := ev_ok ok R t x
  rw [hx] at hv
  have hv := RV.str_inv hv
  have hrun := Lib.run_convert_string_bytes (P := E.P) w t d e g hu (under_sl ok hde) hu2
  have hlen : l.length = g.size := by
    have := congrArg List.length e1
    simp only [List.length_map, bytesTo, Array.length_toList] at this
    exact this
  have hsz1 : E.sz e = 1 := by
    have hne : E.ty e ≠ .no := by rw [t3]; simp
    obtain ⟨i, z, hi, hz, hzs, hrc⟩ := ok.dfl e hne
    obtain ⟨r, hr, -⟩ := (ok.eqA e (by rw [t3]; rfl)).2 (E.dflt e) (E.dflt e)
    have := ok.encSize e (E.dflt e)
    unfold eqV at hr
    rw [t3] at hr
    revert hr this
    generalize E.enc e (E.dflt e) = p
    intro this hr
    cases p <;> try (simp at hr; done)
    rw [← this]; rfl
  let C := grownCap w g.size 0 e
  have hC : g.size ≤ C := Nat.le_add_right _ _
  have hfr : Fr (fun _ => False) w (Lib.bytesWorld w e g) := ⟨by rw [Lib.bytesWorld_size]; omega, fun B hB _ => Lib.bytesWorld_at_old w e g B hB, rfl, rfl, rfl, Nat.le_succ _⟩
  have hx1 := fresh_ext (v := some (.slice (some ⟨w.heap.size, 0, .none⟩) g.size C)) hb hfr R.stb
  refine Ops.fresh R hb hd (ob := .lst e l) (u := .slice (some ⟨w.heap.size, 0, .none⟩) g.size C) (x := .slice (some ⟨w.heap.size, 0, .none⟩) g.size C) (w' := Lib.bytesWorld w e g) ?_ hfr ?_ ?_ ?_
  · simp only [execOp, ho, hv, Sem.run_bind, hrun, Result.andThen_ok]; rfl
  · by_cases h0 : C = 0
    · left; unfold blk; rw [h0, base_zero]; rfl
    · right; exact ⟨w.heap.size, blk_pos (by omega), Nat.le_refl _⟩
  · by_cases h0 : C = 0
    · left
      exact ⟨⟨some ⟨w.heap.size, 0, .none⟩, by rw [h0, show g.size = 0 by omega]⟩, List.eq_nil_of_length_eq_zero (by omega)⟩
    · refine RO.lst_of (B := w.heap.size) (off := 0) (cap := C) (ds := (bytesTo g).map (.int .u8)) (by omega) (by rw [hlen]) ?_ ?_ ?_ (by omega) (by rw [Lib.bytesWorld_size]; omega)
      · rw [e1]; exact rc_ints _
      · intro j v hj
        have hj2 : j < g.size := by
          rcases Nat.lt_or_ge j g.size with h | h
          · exact h
          · rw [List.getElem?_eq_none (by simpa [bytesTo] using h)] at hj; cases hj
        rw [Nat.zero_add, Lib.bytesWorld_cell w e g j hj2, ← hj]
        have hj3 : j < g.data.size := hj2
        rw [List.getElem?_map, bytesTo, List.getElem?_map]
        rw [List.getD, Array.getElem?_toList, Array.getElem?_eq_getElem hj3]
        rfl
      · intro j hj
        rw [hsz1, Nat.mul_one] at hj
        have hz : (Lib.bytesCells w e g).size = C := by
          simp only [Lib.bytesCells, Array.size_append, Array.size_map, Array.size_replicate]
          show g.size + (C - g.size) = C
          omega
        rw [Nat.zero_add]
        constructor
        · simp only [World.cell?, Lib.bytesWorld_at_new]
          simp [hz, hj]
        · simp only [World.frozen?, Lib.bytesWorld_at_new]
          simp [hz]
          omega
  · exact RT.of_rv (.mk1 (.own (upd_same _ _ _) .nil) rfl rfl)

theorem args_int (ok : EnvOk2 E) (R : Rel E s N a.tmps w ι St) (f : Int → Int → Int) (g : Value → Value → Sem Value) (hg : ∀ (k : IntKind) (x y : Int) (k' : IntKind), (g (.int k x) (.int k' y)).run E.P w = .ok (.int k (f x y)) w) (k : IntKind) :
    ∀ (xs : List Operand) (ts : List TypeId) (n m : Int), foldJ f n (evArgs E s xs ts) = some m → ((xs.map a.eval).foldlM g (.int k n)).run E.P w = .ok (.int k m) w
  | [], ts, n, m, h => by
    cases ts <;> (simp only [evArgs, foldJ, Option.some.injEq] at h; subst h; rfl)
  | x :: xs, ts, n, m, h => by
    have key : ∀ t ts', foldJ f n (s.ev E t x :: evArgs E s xs ts') = some m → (((x :: xs).map a.eval).foldlM g (.int k n)).run E.P w = .ok (.int k m) w := by
      intro t ts' h
      have hv := ev_ok ok R t x
      cases hx : s.ev E t x with
      | int k' y =>
        rw [hx] at h hv
        simp only [foldJ] at h
        have hv := RV.int_inv hv
        have ih := args_int ok R f g hg k xs ts' (f n y) m h
        rw [List.map_cons, List.foldlM_cons, hv, Sem.run_bind, hg]
        exact ih
      | _ => rw [hx] at h; simp [foldJ] at h
    cases ts with
    | nil => exact key 0 [] h
    | cons t ts => exact key t ts h
theorem op_fold (ok : EnvOk2 E) (R : Rel E s N a.tmps w ι St) {c : Call} (ho : o.op = .call c) {k : IntKind} {n : Int} (h : c.callee = .builtin .max ∧ foldI maxI (evArgs E s c.args.toList c.argTypes.toList) = some (k, n) ∨ c.callee = .builtin .min ∧ foldI minI (evArgs E s c.args.toList c.argTypes.toList) = some (k, n)) :
    Ops E s N a w ι St b o [] (.int k n) := by
  have key : ∀ (f : Int → Int → Int) (g : Value → Value → Sem Value), (∀ (k : IntKind) (x y : Int) (k' : IntKind), (g (.int k x) (.int k' y)).run E.P w = .ok (.int k (f x y)) w) → foldI f (evArgs E s c.args.toList c.argTypes.toList) = some (k, n) →
      ∃ x xs, c.args.toList = x :: xs ∧ ((xs.map a.eval).foldlM g (a.eval x)).run E.P w = .ok (.int k n) w := by
    intro f g hg hf
    cases hx : c.args.toList with
    | nil => rw [hx] at hf; cases c.argTypes.toList <;> simp [evArgs, foldI] at hf
    | cons x xs =>
      refine ⟨x, xs, rfl, ?_⟩
      have go : ∀ t ts, foldI f (s.ev E t x :: evArgs E s xs ts) = some (k, n) → ((xs.map a.eval).foldlM g (a.eval x)).run E.P w = .ok (.int k n) w := by
        intro t ts hf
        have hv := ev_ok ok R t x
        cases hy : s.ev E t x with
        | int k' y =>
          rw [hy] at hf hv
          simp only [foldI] at hf
          rw [RV.int_inv hv]
          cases hj : foldJ f y (evArgs E s xs ts) with
          | none => rw [hj] at hf; simp at hf
          | some m =>
            rw [hj] at hf
            simp only [Option.some.injEq, Prod.mk.injEq] at hf
            obtain ⟨rfl, rfl⟩ := hf
            exact args_int ok R f g hg k' xs ts y m hj
        | _ => rw [hy] at hf; simp [foldI] at hf
      rw [hx] at hf
      cases hts : c.argTypes.toList with
      | nil => rw [hts] at hf; exact go 0 [] hf
      | cons t ts => rw [hts] at hf; exact go t ts hf
  refine Ops.pure R (u := .int k n) ?_ (RT.of_rv (.mk1 (.int .nil) rfl rfl))
  rcases h with ⟨hc, h⟩ | ⟨hc, h⟩
  · obtain ⟨x, xs, h1, h2⟩ := key maxI Builtin.max2 (fun k x y k' => by
      simp only [Builtin.max2, Sem.run_pure, maxI, Bool.cond_decide]) h
    have h3 : (c.args.map a.eval).toList = a.eval x :: xs.map a.eval := by simp [h1]
    simp only [execOp, ho, resolve, hc, Sem.run_bind, Sem.run_pure, Result.andThen_ok, invoke, builtin, Builtin.max_, h3, h2]
  · obtain ⟨x, xs, h1, h2⟩ := key minI Builtin.min2 (fun k x y k' => by
      simp only [Builtin.min2, Sem.run_pure, minI, Bool.cond_decide]) h
    have h3 : (c.args.map a.eval).toList = a.eval x :: xs.map a.eval := by simp [h1]
    simp only [execOp, ho, resolve, hc, Sem.run_bind, Sem.run_pure, Result.andThen_ok, invoke, builtin, Builtin.min_, h3, h2]

-- what is copied into an array
theorem RC.takeE (ok : EnvOk E) {c : Nat} {l : List (U c)} {ds : List Value} (h : RC E w St ι (l.map (E.enc c)) ds []) (i : Nat) (hi : i ≤ l.length) : RC E w St ι ((l.take i).map (E.enc c)) (ds.take (i * E.sz c)) [] ∧ RC E w St ι ((l.drop i).map (E.enc c)) (ds.drop (i * E.sz c)) [] := by
  have hm := congrArg (List.map (E.enc c)) (List.take_append_drop i l)
  rw [List.map_append] at hm
  rw [← hm] at h
  obtain ⟨c1, c2, b1, b2, rfl, hb, h1, h2⟩ := RC.split h
  obtain ⟨rfl, rfl⟩ := nil_or hb
  have l1 := h1.length ok
  rw [sizes_enc ok, List.length_take, Nat.min_eq_left hi] at l1
  rw [← l1, List.take_left, List.drop_left]
  exact ⟨h1, h2⟩
theorem splice_in (cs news : List Value) (P L0 x : Nat) (h1 : P + L0 ≤ cs.length) (h2 : x + news.length ≤ L0) :
    cs.take P ++ ((((cs.drop P).take L0).take x ++ (news ++ ((cs.drop P).take L0).drop (x + news.length))) ++ cs.drop (P + L0)) = cs.take (P + x) ++ (news ++ cs.drop (P + x + news.length)) := by
  have e1 : ((cs.drop P).take L0).take x = (cs.drop P).take x := by rw [List.take_take, Nat.min_eq_left (by omega)]
  have e2 : ((cs.drop P).take L0).drop (x + news.length) ++ cs.drop (P + L0) = cs.drop (P + x + news.length) := by
    rw [List.drop_take, List.drop_drop, show P + (x + news.length) = P + x + news.length by omega]
    have := List.take_append_drop (L0 - (x + news.length)) (cs.drop (P + x + news.length))
    rw [List.drop_drop, show P + x + news.length + (L0 - (x + news.length)) = P + L0 by omega] at this
    exact this
  rw [e1, List.append_assoc, List.append_assoc, e2, ← List.append_assoc, ← List.take_add]

theorem op_copy (ok : EnvOk2 E) (R : Rel E s N a.tmps w ι St) {c : Call} (hc : c.callee = .builtin .copy) (ho : o.op = .call c) {x y : Operand} {t tx : TypeId} (ha : c.args.toList = [x, y]) (hat : c.argTypes.toList = [t, tx])
    {m : Nat} {p : List Step} {e n i len : Nat} (hx : s.ev E t x = .bsl m p e n i len) (ht : slOf E t e = true) {q : A U} (hm : s.h m = .box q) {l : List (U e)} (hg : getP E q p = .arr e n l) {cq : Cont U} (hcq : content E s.h (s.ev E tx y) = some cq)
    {src : List (U e)} (hsrc : ∃ h : cq.c = e, h ▸ cq.l = src) {q' : A U} (hs : setP E q p (.arr e n (splice l i src (Nat.min src.length len))) = some q') :
    Ops E s N a w ι St b o [(m, .box q')] (.int .i64 ((Nat.min src.length len : Nat) : Int)) := by
  obtain ⟨hce, hcl⟩ := hsrc
  obtain ⟨cr, cc, cl⟩ := cq
  simp only at hce hcl
  subst hce
  simp only at hcl
  subst hcl
  obtain ⟨t1, t2⟩ := slOf_iff ok ht
  obtain ⟨inf, hinf, hsz, -⟩ := ok.info cc t2
  have hv := ev_ok ok R t x
  rw [hx] at hv
  obtain ⟨B, a', cap, r1, r2, r3, r4, r5, r6, r7⟩ := RV.bsl_inv hv
  have h0 := R.obj m
  rw [hm] at h0
  obtain ⟨B', cs, g1, g2, g3, g4, g5⟩ := h0
  rw [r1] at g1
  simp only [Option.some.injEq, Value.pointer.injEq, Addr.mk.injEq, and_true] at g1
  subst g1
  obtain ⟨p1, p2⟩ := g2.getP ok.toEnvOk p r6 (by rw [hg]; rfl)
  rw [hg] at p1 p2
  obtain ⟨p3, p4, -⟩ := p1.arr_inv
  obtain ⟨as, scap, q1, q2⟩ := content_at ok R (ev_ok ok R tx y) hcq
  simp only at q1 q2
  let k := Nat.min cl.length len
  have hk1 : k ≤ cl.length := Nat.min_le_left _ _
  have hk2 : k ≤ len := Nat.min_le_right _ _
  -- what is read
  have read : ∃ news, (Builtin.firstCells inf.size k (.slice as cl.length scap)).run E.P w = .ok news.toArray w ∧ RC E w St ι ((cl.take k).map (E.enc cc)) news [] ∧ (∀ v ∈ news, v.oneCell' = true) := by
    rcases q2 with h | ⟨B2, off, ds, rfl, h1, h2⟩
    · subst h
      have hk0 : k = 0 := by simp only [List.length_nil] at hk1; omega
      refine ⟨[], ?_, by rw [hk0]; exact .nil, by simp⟩
      cases as with
      | none => rfl
      | some z =>
        have := run_loadCells_list (P := E.P) w z [] (by simp)
        rw [hk0]
        simpa [Builtin.firstCells] using this
    · obtain ⟨d1, -⟩ := h1.takeE ok.toEnvOk k hk1
      refine ⟨_, ?_, d1, d1.oneCell⟩
      have hl := d1.length ok.toEnvOk
      rw [sizes_enc ok.toEnvOk, List.length_take (l := cl), Nat.min_eq_left hk1] at hl
      have := run_loadCells_list (P := E.P) w ⟨B2, off, .none⟩ (ds.take (k * E.sz cc)) (fun j v hj => by
        rw [Addr.add_eq]
        refine h2 j v ?_
        rw [List.getElem?_take] at hj
        split at hj
        · exact hj
        · cases hj)
      simp only [Builtin.firstCells, hsz]
      rw [hl] at this
      exact this
  obtain ⟨news, n1, n2, n3⟩ := read
  have hnl := n2.length ok.toEnvOk
  rw [sizes_enc ok.toEnvOk, List.length_take (l := cl), Nat.min_eq_left hk1] at hnl
  -- the array's cells
  have hL0 : ((cs.drop (po p)).take (size E.sz (.arr cc n l : A U))).length = n * E.sz cc := by
    have := p4.length ok.toEnvOk
    rw [sizes_enc ok.toEnvOk, p3] at this
    exact this
  have hle : po p + n * E.sz cc ≤ cs.length := p2
  have hkn : i * E.sz cc + news.length ≤ n * E.sz cc := by
    rw [hnl, ← Nat.add_mul]
    exact Nat.mul_le_mul_right _ (by omega)
  have hnew : RC E w St ι [(.arr cc n (splice l i cl k) : A U)] (((cs.drop (po p)).take (n * E.sz cc)).take (i * E.sz cc) ++ (news ++ ((cs.drop (po p)).take (n * E.sz cc)).drop (i * E.sz cc + news.length))) [] := by
    have h1 := (p4.takeE ok.toEnvOk i (by omega)).1
    have h2 := (p4.takeE ok.toEnvOk (i + k) (by omega)).2
    have : RC E w St ι ((splice l i cl k).map (E.enc cc)) (((cs.drop (po p)).take (n * E.sz cc)).take (i * E.sz cc) ++ (news ++ ((cs.drop (po p)).take (n * E.sz cc)).drop (i * E.sz cc + news.length))) [] := by
      simp only [splice, List.map_append]
      refine RC.append (bs := []) (bs' := []) h1 (RC.append (bs := []) (bs' := []) n2 ?_)
      rw [hnl, ← Nat.add_mul]
      exact h2
    have hlen : (splice l i cl k).length = n := by
      simp only [splice, List.length_append, List.length_take, List.length_drop, Nat.min_eq_left hk1]
      omega
    simpa using RC.arr hlen this .nil
  obtain ⟨s1, s2, s3, s4, s5⟩ := g2.setP ok.toEnvOk p r6 hs hnew
  have hdl : (((cs.drop (po p)).take (n * E.sz cc)).take (i * E.sz cc) ++ (news ++ ((cs.drop (po p)).take (n * E.sz cc)).drop (i * E.sz cc + news.length))).length = n * E.sz cc := by
    have hh := hL0
    simp only [size] at hh
    simp only [List.length_append, List.length_take, List.length_drop] at hh ⊢
    omega
  rw [hdl, splice_in cs news (po p) (n * E.sz cc) (i * E.sz cc) hle hkn] at s1
  have hrun : (Builtin.copy_ #[t, tx] o.type #[a.eval x, a.eval y]).run E.P w = .ok (goInt k) (w.setCells B (po p + i * E.sz cc) news) := by
    rw [r7, q1]
    have hst : (match a' with | some z => storeCells z news.toArray.toList | none => pure ()).run E.P w = .ok () (w.setCells B (po p + i * E.sz cc) news) := by
      by_cases h0 : news = []
      · subst h0
        cases a' <;> rfl
      · have hk0 : 0 < k := by
          rcases Nat.eq_zero_or_pos k with h | h
          · rw [h] at hnl
            exact absurd (List.eq_nil_of_length_eq_zero (by rw [hnl]; simp)) h0
          · exact h
        have ha := r5.resolve_left (by omega)
        subst ha
        have := run_storeCells_cells (P := E.P) B (po p + i * E.sz cc) news 0 w
          (fun j hj => by have := (g4 (po p + i * E.sz cc + j) (by omega)).1; simpa using this)
          (fun j hj => by have := (g4 (po p + i * E.sz cc + j) (by omega)).2; simpa using this) n3
        simpa using this
    have hk : Nat.min cl.length len = k := rfl
    cases ha' : a' with
    | none =>
      rw [ha'] at hst
      have hst : w = w.setCells B (po p + i * E.sz cc) news := by
        have : (Result.ok () w : Result Unit) = .ok () (w.setCells B (po p + i * E.sz cc) news) := hst
        simpa using this
      simp [Builtin.copy_, run_underlying (under_sl ok t1), Builtin.lenOf, sizeOf, typeInfo, hinf, n1, hk]
      exact hst
    | some z =>
      rw [ha'] at hst
      simp only [] at hst
      simp [Builtin.copy_, run_underlying (under_sl ok t1), Builtin.lenOf, sizeOf, typeInfo, hinf, n1, hst, hk]
  refine Ops.store R hm r1 (off := po p + i * E.sz cc) (ds := news) (nx := .value (goInt k)) (u := goInt k) ?_ (.inl rfl) g5 s1 ?_ ?_ (fun _ _ => RT.of_rv (.mk1 (.int .nil) rfl rfl))
  · have h1 : c.args = #[x, y] := Array.ext' (by simpa using ha)
    have h2 : c.argTypes = #[t, tx] := Array.ext' (by simpa using hat)
    simp only [execOp, ho, resolve, hc, Sem.run_bind, Sem.run_pure, Result.andThen_ok, invoke, builtin, h1, h2]
    simp [hrun]
  · have := range_splice (w := w) (B := B) (off := 0) (k := po p + i * E.sz cc) g3 (ds := news) (by omega)
    simpa using this
  · have hlen : (cs.take (po p + i * E.sz cc) ++ (news ++ cs.drop (po p + i * E.sz cc + news.length))).length = cs.length := by
      simp only [List.length_append, List.length_take, List.length_drop]; omega
    rw [hlen]
    exact there_setCells g4

-- a slice of a slice of one's own
theorem slice_run' (ok : EnvOk2 E) {t e : TypeId} (ht : E.ty t = .sl e) (hne : E.ty e ≠ .no) (a' : Option Addr) (n cap : Nat) (lo hi : Option Value) (l h : Int)
    (hl : lo = none ∧ l = 0 ∨ ∃ k, lo = some (.int k l)) (hh : hi = none ∧ h = n ∨ ∃ k, hi = some (.int k h)) (h0 : 0 ≤ l) (h1 : l ≤ h) (h2 : h ≤ n) (hc : n ≤ cap) :
    (Instr.sliceAt t (.slice a' n cap) lo hi none).run E.P w = .ok (.slice (if cap = l.toNat then a' else a'.map (·.add (l.toNat * E.sz e))) (h.toNat - l.toNat) (cap - l.toNat)) w := by
  obtain ⟨i, hi', hs, -⟩ := ok.info e hne
  have hb := bounds_run (E := E) (w := w) true n cap lo hi l h hl hh h0 h1 h2 hc
  simp [Instr.sliceAt, Instr.slice, run_underlying (under_sl ok ht), hb, sizeOf, typeInfo, hi', hs]
theorem op_slice_own (ok : EnvOk2 E) (R : Rel E s N a.tmps w ι St) (t : TypeId) (x : Operand) (lo hi : Option Operand) (ho : o.op = .slice t x lo hi none) {m c : Nat} {l : List (U c)} (hx : s.ev E t x = .own m) (hm : s.h m = .lst c l ∨ s.h m = .fz c l) (ht : slOf E t c = true)
    {i j : Int} (h1 : optI 0 (lo.map (s.ev E 0)) = some i) (h2 : optI (l.length : Int) (hi.map (s.ev E 0)) = some j) (b0 : 0 ≤ i) (b1 : i ≤ j) (b2 : j ≤ (l.length : Int)) :
    Ops E s N a w ι St b o [] (.sub m c i.toNat (j - i).toNat) := by
  obtain ⟨t1, t2⟩ := slOf_iff ok ht
  have hv := ev_ok ok R t x
  rw [hx] at hv
  obtain ⟨a', L, C, q1, q2⟩ := RV.own_inv hv
  obtain ⟨rfl, q3⟩ := R.own_at hm q2
  have hle : l.length ≤ C := by
    rcases q3 with rfl | ⟨_, _, _, _, _, _, h⟩
    · exact Nat.zero_le _
    · exact h
  have hrun := slice_run' (w := w) ok t1 t2 a' l.length C (lo.map a.eval) (hi.map a.eval) i j (optI_ok ok R 0 lo h1) (optI_ok ok R _ hi h2) b0 b1 b2 hle
  refine Ops.pure R (u := _) (by simp only [execOp, ho, q1, Option.map_none]; rw [Sem.run_bind, hrun]; rfl) (RT.of_rv (.mk1 ?_ rfl rfl))
  rw [show j.toNat - i.toNat = (j - i).toNat by omega]
  refine .sub q2 (by omega) (by omega) (by omega) ?_ .nil
  by_cases h : C = i.toNat
  · exact .inl (by omega)
  · rw [if_neg h]; exact .inr rfl
theorem op_slice_sub (ok : EnvOk2 E) (R : Rel E s N a.tmps w ι St) (t : TypeId) (x : Operand) (lo hi : Option Operand) (ho : o.op = .slice t x lo hi none) {m c k len : Nat} {l : List (U c)} (hx : s.ev E t x = .sub m c k len) (hm : s.h m = .lst c l) (ht : slOf E t c = true)
    {i j : Int} (h1 : optI 0 (lo.map (s.ev E 0)) = some i) (h2 : optI (len : Int) (hi.map (s.ev E 0)) = some j) (b0 : 0 ≤ i) (b1 : i ≤ j) (b2 : j ≤ (len : Int)) :
    Ops E s N a w ι St b o [] (.sub m c (k + i.toNat) (j - i).toNat) := by
  obtain ⟨t1, t2⟩ := slOf_iff ok ht
  have hv := ev_ok ok R t x
  rw [hx] at hv
  obtain ⟨a0, a', L, C, cap, q1, q2, q3, q4, q5, q6⟩ := RV.sub_inv hv
  have hrun := slice_run' (w := w) ok t1 t2 a' len cap (lo.map a.eval) (hi.map a.eval) i j (optI_ok ok R 0 lo h1) (optI_ok ok R _ hi h2) b0 b1 b2 q3
  refine Ops.pure R (u := _) (by simp only [execOp, ho, q6, Option.map_none]; rw [Sem.run_bind, hrun]; rfl) (RT.of_rv (.mk1 ?_ rfl rfl))
  rw [show j.toNat - i.toNat = (j - i).toNat by omega]
  refine .sub q1 (by omega) (by omega) (by omega) ?_ .nil
  by_cases h : cap = i.toNat
  · exact .inl (by omega)
  · rw [if_neg h]
    have hcap : cap ≠ 0 := fun e => by omega
    have e1 := q5.resolve_left hcap
    have h0 := R.obj m
    rw [hm] at h0
    rcases h0 with ⟨⟨z, hz⟩, -⟩ | ⟨B, off, C', ds, hz, -⟩
    · rw [q1] at hz
      simp only [Option.some.injEq, Value.slice.injEq] at hz
      omega
    · rw [q1] at hz
      simp only [Option.some.injEq, Value.slice.injEq] at hz
      obtain ⟨rfl, -, -⟩ := hz
      right
      rw [e1]
      simp only [Option.map_some, Addr.add_eq, Option.some.injEq, Addr.mk.injEq, true_and, and_true]
      rw [Nat.add_mul]
      omega
end
end Go.V

/- V: operations at trees. -/
set_option linter.unusedVariables false
namespace Go.V
variable {U : Nat → Type}
section
variable {E : Env U} {w : World} {St : Ck U → Nat → Prop} {ι : Nat → Option Value} {s : S U} {N : Nat} {a : Act} {b : Nat} {o : Oper}

mutual
theorem flat_cells : ∀ (q : A U) {cs : List Value} {l : List (IntKind × Int)}, RC E w St ι [q] cs [] → flat q = some l → cs = l.map fun x => .int x.1 x.2
  | .int k n, cs, l, h, hf => by
    cases h with
    | int hn => cases hn; simp only [flat, Option.some.injEq] at hf; subst hf; rfl
  | .agg m, cs, l, h, hf => flats_cells m h.agg_inv (by simpa [flat] using hf)
  | .none, _, _, _, hf | .bool _, _, _, _, hf | .str _, _, _, _, hf | .nilp, _, _, _, hf | .nilf, _, _, _, hf | .arr .., _, _, _, hf | .nils _, _, _, _, hf | .ro .., _, _, _, hf | .clip .., _, _, _, hf | .usl .., _, _, _, hf
  | .own _, _, _, _, hf | .sub .., _, _, _, hf | .bsl .., _, _, _, hf | .ptr .., _, _, _, hf | .rp .., _, _, _, hf | .clo .., _, _, _, hf | .yld _, _, _, _, hf | .tup _, _, _, _, hf | .tr .., _, _, _, hf | .gh _, _, _, _, hf => by simp [flat] at hf
theorem flats_cells : ∀ (q : List (A U)) {cs : List Value} {l : List (IntKind × Int)}, RC E w St ι q cs [] → flats q = some l → cs = l.map fun x => .int x.1 x.2
  | [], cs, l, h, hf => by cases h; simp only [flats, Option.some.injEq] at hf; subst hf; rfl
  | a :: q, cs, l, h, hf => by
    obtain ⟨c1, c2, b1, b2, rfl, hb, h1, h2⟩ := RC.cons_inv h
    obtain ⟨rfl, rfl⟩ := nil_or hb
    simp only [flats] at hf
    cases e1 : flat a with
    | none => rw [e1] at hf; cases hf
    | some x =>
      cases e2 : flats q with
      | none => rw [e1, e2] at hf; cases hf
      | some y =>
        rw [e1, e2] at hf
        simp only [Option.some.injEq] at hf
        subst hf
        rw [flat_cells a h1 e1, flats_cells q h2 e2, List.map_append]
end
theorem onceZ_iff {z : Option (List (IntKind × Int))} (h : onceZ z = true) : z = some [(.u32, 0), (.i32, 0), (.u32, 0)] := by
  unfold onceZ at h
  split at h
  · rfl
  · cases h
theorem knotBox_inv {g : Int} {v x : A U} (h : knotBox g v = some x) : ∃ q d l, v = .agg (.agg [q, d] :: l) ∧ onceZ (flat q) = true ∧ x = .agg (.agg [.gh g, d] :: l) := by
  unfold knotBox at h
  split at h
  · rename_i q d l
    cases hb : onceZ (flat q) with
    | false => rw [hb] at h; cases h
    | true => rw [hb] at h; simp only [cond_true, Option.some.injEq] at h; exact ⟨q, d, l, rfl, hb, h.symm⟩
  · cases h
theorem knotBox_rc {g : Int} {v x : A U} (h : knotBox g v = some x) {cs : List Value} (hc : RC E w St ι [v] cs []) : RC E w St ι [x] cs [] := by
  obtain ⟨q, d, l, rfl, h1, rfl⟩ := knotBox_inv h
  obtain ⟨c1, c2, b1, b2, rfl, hb, h2, h3⟩ := RC.cons_inv hc.agg_inv
  obtain ⟨rfl, rfl⟩ := nil_or hb
  obtain ⟨c3, c4, b1, b2, rfl, hb, h4, h5⟩ := RC.cons_inv h2.agg_inv
  obtain ⟨rfl, rfl⟩ := nil_or hb
  have := flat_cells q h4 (onceZ_iff h1)
  subst this
  have k1 : RC E w St ι [.gh g, d] (.int .u32 0 :: .int .i32 0 :: .int .u32 0 :: c4) [] := .gh h5
  have k2 : RC E w St ι [.agg [.gh g, d]] (.int .u32 0 :: .int .i32 0 :: .int .u32 0 :: c4) [] := by simpa using RC.agg k1 .nil
  have := RC.agg (RC.cons k2 h3) (.nil (E := E) (w := w) (St := St) (ι := ι))
  simpa using this
theorem knotBox_get {g g' : Int} {v x : A U} (h : knotBox g v = some x) : ∃ y, knotBox g' v = some y := by
  obtain ⟨q, d, l, rfl, h1, rfl⟩ := knotBox_inv h
  exact ⟨.agg (.agg [.gh g', d] :: l), by simp [knotBox, h1]⟩

/-- a knot's box is made -/
theorem op_knot (ok : EnvOk2 E) (R : Rel E s N a.tmps w ι St) (hb : ι b = none) (hd : isLive (s.h b) = false) (t : TypeId) (x : Operand) (ho : o.op = .box t x)
    (hk : known (s.ev E t x) = true) {g : Int} {y : A U} (hy : knotBox g (s.ev E t x) = some y) : Ops E s N a w ι St b o [(b, .box y)] (.ptr b []) := by
  have h := (ev_ok ok R t x).rv hk
  have hf := Fr.alloc (fun _ => False) w (.cells (a.eval x).cells t)
  have e := fresh_ext (v := some (.pointer (some ⟨w.heap.size, 0, .none⟩))) hb hf R.stb
  refine Ops.fresh R hb hd (u := .pointer (some ⟨w.heap.size, 0, .none⟩)) (x := .pointer (some ⟨w.heap.size, 0, .none⟩)) (w' := w.alloc (.cells (a.eval x).cells t)) ?_ hf
    (.inr ⟨w.heap.size, rfl, Nat.le_refl _⟩) ?_ ?_
  · simp [execOp, ho, Instr.box, newVar, newRow]
  · refine ⟨w.heap.size, (a.eval x).cells.toList, rfl, (knotBox_rc hy h.1).ext e, rangeAt_alloc _ _ _, ?_, by simp⟩
    simpa using there_alloc w (a.eval x).cells t
  · refine RT.of_rv (.mk1 (.ptr (upd_same _ _ _) rfl trivial .nil) rfl rfl)

theorem KP.some {c : Nat} {x : KT (U c)} {p : List Step} {v : Value} (h : KP St c x p v) (hn : x.isNil = false) : vp 0 p ∧ ∃ B, v = .pointer (some ⟨B, po p, .none⟩) ∧ St (.kn c x) B := by
  rcases h with ⟨rfl, -⟩ | ⟨-, h⟩
  · cases hn
  · exact h

theorem op_fieldAddr_tr (ok : EnvOk2 E) (R : Rel E s N a.tmps w ι St) (t : TypeId) (x : Operand) (k : Nat) (ho : o.op = .fieldAddr t x k) {c : Nat} {z : KT (U c)} {p : List Step} (hx : s.ev E 0 x = .tr c z p)
    {fs : List (TypeId × Nat)} {f : TypeId × Nat} (ht : E.ty t = .st fs) (hk : fieldAt fs k = some f) (hz : (Nat.beq (E.sz f.1) 0 || isNo (E.ty f.1)) = false) (hn : z.isNil = false) :
    Ops E s N a w ι St b o [] (.tr c z (p ++ [.fld k f.2])) := by
  have h := ev_ok ok R 0 x
  rw [hx] at h
  obtain ⟨h1, B, h2, h3⟩ := (RV.tr_inv h).some hn
  refine Ops.pure R (u := .pointer (some ⟨B, po p + f.2, .none⟩)) (by simp [execOp, ho, h2, fieldAt_run ok ht hk hz]) (RT.of_rv (.tr (.inr ⟨hn, (vp_append _ _ _).2 ⟨h1, trivial⟩, B, ?_, h3⟩)))
  have : po p + f.2 = po (p ++ [.fld k f.2]) := by simp [po_append, po]
  rw [this]

theorem op_nilCheck_tr (ok : EnvOk2 E) (R : Rel E s N a.tmps w ι St) (x : Operand) (ho : o.op = .nilCheck x) {c : Nat} {z : KT (U c)} {p : List Step} (hx : s.ev E 0 x = .tr c z p) (hn : z.isNil = false) : Ops E s N a w ι St b o [] (.tr c z p) := by
  have h := ev_ok ok R 0 x
  rw [hx] at h
  obtain ⟨h1, B, h2, h3⟩ := (RV.tr_inv h).some hn
  exact Ops.pure R (u := a.eval x) (by simp [execOp, ho, h2]) h

theorem getP_tr (c : Nat) (z : KT (U c)) (q : List Step) (p : List Step) (h : known (getP E (.tr c z q) p) = true) : p = [] := by
  cases p with
  | nil => rfl
  | cons s p => cases s <;> simp [getP, known] at h

theorem load_at (ok : EnvOk2 E) {t : TypeId} {v : A U} {B off : Nat} {ds : List Value} (hf : fits E t v = true) (h : RC E w St ι [v] ds []) (hr : w.rangeAt B off ds) : ∃ y, (Instr.loadAt t (.pointer (some ⟨B, off, .none⟩))).run E.P w = .ok y w ∧ RV E w St ι v y := load_run ok hf h hr

theorem op_load_tr (ok : EnvOk2 E) (R : Rel E s N a.tmps w ι St) (t : TypeId) (x : Operand) (ho : o.op = .load t x) {c : Nat} {z : KT (U c)} {p : List Step} (hx : s.ev E 0 x = .tr c z p)
    (hf : fits E t (getP E (knA E c z) p) = true) (hp : plainK p = true) : Ops E s N a w ι St b o [] (getP E (knA E c z) p) := by
  have h := ev_ok ok R 0 x
  rw [hx] at h
  have hk := RV.tr_inv h
  have hn : z.isNil = false ∧ vp 0 p ∧ ∃ B, a.eval x = .pointer (some ⟨B, po p, .none⟩) ∧ St (.kn c z) B := by
    rcases hk with ⟨-, rfl, -⟩ | h
    · cases hp
    · exact h
  obtain ⟨hn, hv, B, h1, h2⟩ := hn
  obtain ⟨hc, h3⟩ := R.sup.kn _ _ _ h2
  subst hc
  cases z with
  | nil => cases hn
  | node g v l r =>
  obtain ⟨ms, ls, pl, pr, K⟩ := h3
  have key : ∃ es, RC E w St ι [getP E (knA E E.kn.c (.node g v l r)) p] es [] ∧ w.rangeAt B (po p) es := by
    cases p with
    | nil => cases hp
    | cons st p =>
      cases st with
      | idx _ _ _ => cases hp
      | elt _ _ => cases hp
      | fld k off =>
        cases k with
        | zero => cases hp
        | succ k =>
          have hkn := (fits_iff hf).1
          simp only [knA, getP] at hkn ⊢
          cases hb : Nat.beq (sizes E.sz (List.take (k + 1) [E.kn.mz, E.enc E.kn.c v, .tr E.kn.c l [], .tr E.kn.c r []])) off with
          | false => simp only [KT.lf, KT.lt, KT.rt, hb, cond_false, known] at hkn; cases hkn
          | true =>
            simp only [KT.lf, KT.lt, KT.rt, hb, cond_true] at hkn ⊢
            have ho := Nat.eq_of_beq_eq_true hb
            have hls := K.leaf.length ok.toEnvOk
            simp only [sizes, ok.encSize, Nat.add_zero] at hls
            have hr := K.at_
            have sub : ∀ q n, w.rangeAt B (ms.length + q) (((ls ++ [pl, pr]).drop q).take n) := fun q n => by
              have := rangeAt_sub hr (ms.length + q) n
              rwa [Nat.zero_add, List.drop_append, List.drop_of_length_le (by omega), List.nil_append, Nat.add_sub_cancel_left] at this
            rcases k with - | - | - | k
            · -- the leaf
              simp only [nth] at hkn ⊢
              simp only [List.take_succ_cons, List.take_zero, sizes, Nat.add_zero] at ho
              obtain ⟨r1, r2⟩ := K.leaf.getP ok.toEnvOk p hv hkn
              have r3 : RC E w St ι [getP E (E.enc E.kn.c v) p] _ [] := r1.ext ⟨fun _ _ h => h, fun _ _ h => by simp at h, fun _ _ => rfl, Nat.le_refl _⟩
              refine ⟨_, r3, ?_⟩
              have := sub (po p) (size E.sz (getP E (E.enc E.kn.c v) p))
              rw [List.drop_append_of_le_length (by omega), List.take_append_of_le_length (by simp; omega)] at this
              simp only [po]
              rwa [← ho, ← K.len]
            · simp only [nth] at hkn ⊢
              obtain rfl := getP_tr _ _ _ _ hkn
              simp only [List.take_succ_cons, List.take_zero, sizes, ok.encSize, Nat.add_zero] at ho
              refine ⟨[pl], .tr K.lt .nil, ?_⟩
              have := sub ls.length 1
              rw [List.drop_append, List.drop_of_length_le (by omega), List.nil_append, Nat.sub_self] at this
              simp only [po, Nat.add_zero]
              rw [← ho, ← K.len, ← hls]
              exact this
            · simp only [nth] at hkn ⊢
              obtain rfl := getP_tr _ _ _ _ hkn
              simp only [List.take_succ_cons, List.take_zero, sizes, ok.encSize, Nat.add_zero, size] at ho
              refine ⟨[pr], .tr K.rt .nil, ?_⟩
              have := sub (ls.length + 1) 1
              rw [List.drop_append, List.drop_of_length_le (by omega), List.nil_append, Nat.add_sub_cancel_left] at this
              simp only [po, Nat.add_zero]
              rw [← ho, ← K.len, ← hls]
              exact this
            · simp only [nth, getP_none, known] at hkn; cases hkn
  obtain ⟨es, q1, q2⟩ := key
  obtain ⟨y, r1, r2⟩ := load_run ok hf q1 q2
  exact Ops.pure R (u := y) (by simp [execOp, ho, h1, r1]) (RT.of_rv r2)

theorem notin_upds {α : Type} {n : Nat} : ∀ (l : List (Nat × α)) (h : Nat → α), memN n (l.map (·.1)) = false → upds h l n = h n
  | [], h, _ => rfl
  | (k, z) :: l, h, hm => by
    simp only [List.map_cons, memN, Bool.or_eq_false_iff] at hm
    simp only [upds]
    rw [notin_upds l _ hm.2, upd_ne]
    intro e
    subst e
    simp at hm

/-- a value is laid into a box; a knot's box becomes a tree by that -/
theorem op_store_kn (ok : EnvOk2 E) (R : Rel E s N a.tmps w ι St) (t : TypeId) (x y : Operand) (ho : o.op = .store t x y) {n : Nat} {p : List Step} (hx : s.ev E 0 x = .ptr n p) {q q' : A U} (hn : s.h n = .box q)
    (hf : fits E t (kconv E s.h (s.ev E t y)).1 = true) (hm : memN n ((kconv E s.h (s.ev E t y)).2.map (·.1)) = false) (hp : setP E q p (kconv E s.h (s.ev E t y)).1 = some q') :
    Ops E s N a w ι St b o ((kconv E s.h (s.ev E t y)).2 ++ [(n, .box q')]) .none := by
  obtain ⟨St1, x1, g1, R1, l1, k1, -⟩ := kconv_ok ok R (s.ev E t y)
  refine Ops.after (s1 := { s with h := upds s.h (kconv E s.h (s.ev E t y)).2 }) (St1 := St1) rfl l1 g1 (fun c z B h => x1.st _ _ h) ?_
  have h1 := (ev_ok ok R 0 x).ext x1
  rw [hx] at h1
  obtain ⟨u, B, off, q1, q2, q3, q4⟩ := RV.ptr_inv h1
  have h2 := (k1 _ (ev_ok ok R t y)).rv (fits_iff hf).1
  have hn1 : upds s.h (kconv E s.h (s.ev E t y)).2 n = .box q := by rw [notin_upds _ _ hm, hn]
  have h0 := R1.obj n
  simp only [hn1] at h0
  obtain ⟨B', cs, r1, r2, r3, r4, r5⟩ := h0
  rw [q1] at r1
  simp only [Option.some.injEq] at r1
  subst r1
  simp only [base, Option.some.injEq, Prod.mk.injEq] at q2
  obtain ⟨rfl, rfl⟩ := q2
  obtain ⟨p1, p2, p3, p4, p5⟩ := r2.setP ok.toEnvOk p q3 hp h2.1
  have hrun := store_run ok hf h2 r4 p2
  rw [Nat.zero_add] at hrun q4
  refine Ops.store R1 hn1 q1 (off := po p) (ds := (a.eval y).cells.toList) (nx := .skip) (u := undef) ?_ (.inr ⟨rfl, rfl⟩) r5 p1 ?_ ?_ (fun _ _ => trivial)
  · simp [execOp, ho, q4, hrun]
  · have := range_splice (w := w) (B := B') (off := 0) (k := po p) r3 p2
    simpa using this
  · have hlen : (cs.take (po p) ++ ((a.eval y).cells.toList ++ cs.drop (po p + (a.eval y).cells.toList.length))).length = cs.length := by
      simp only [List.length_append, List.length_take, List.length_drop]; omega
    rw [hlen]
    exact there_setCells r4
end
end Go.V
