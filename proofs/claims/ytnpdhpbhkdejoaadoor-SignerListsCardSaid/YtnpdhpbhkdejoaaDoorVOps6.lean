/- V, tenth part: structs and arrays built; slices of slices; lengths. -/
import Derived.Test.YtnpdhpbhkdejoaaDoorVOps5
set_option linter.unusedVariables false
set_option linter.unusedSimpArgs false
namespace Go.V
variable {U : Nat → Type}
section
variable {E : Env U} {w : World} {St : Bool → Nat → Prop} {ι : Nat → Option Value} {s : S U} {N : Nat} {a : Act} {b : Nat} {o : Oper}

/-- a pure operation, with a list frozen on the way -/
theorem Ops.pure_after {s1 : S U} {wr : List (Nat × AObj U)} {v : A U} {u : Value} {St1 : Bool → Nat → Prop} (hs : s1 = { s with h := upds s.h wr }) (f : Frz s.h s1.h) (hg : ∀ g B, St1 g B → St g B ∨ Own s ι B) (R : Rel E s1 N a.tmps w ι St1)
    (hr : (execOp a.eval o).run E.P w = .ok (.value u) w) (hv : RT E w St1 ι v u) : Ops E s N a w ι St b o wr v := by
  have := Ops.after (St := St) (wr2 := []) (b := b) hs f hg (Ops.pure R hr hv)
  simpa using this

theorem fieldsFit_iff : ∀ (fs : List (TypeId × Nat)) (z : List (A U)) (k : Nat), fieldsFit E fs z k = true → fs.length = z.length ∧ ∀ i, i < z.length → ∃ f, fieldAt fs i = some f ∧ f.2 = k + sizes E.sz (z.take i) ∧ E.sz f.1 = size E.sz (nth z i) ∧ E.ty f.1 ≠ .no
  | [], [], k, _ => ⟨rfl, fun i hi => by simp at hi⟩
  | [], _ :: _, k, h => by simp [fieldsFit] at h
  | _ :: _, [], k, h => by simp [fieldsFit] at h
  | (t, off) :: fs, q :: z, k, h => by
    simp only [fieldsFit, Bool.and_eq_true, Bool.not_eq_true'] at h
    obtain ⟨h1, h2, h3, h4⟩ := h
    obtain ⟨i1, i2⟩ := fieldsFit_iff fs z _ h4
    refine ⟨by simp [i1], fun i hi => ?_⟩
    cases i with
    | zero => exact ⟨(t, off), rfl, by simpa [sizes] using Nat.eq_of_beq_eq_true h1, by simpa [nth] using Nat.eq_of_beq_eq_true h3, fun e => by rw [e] at h2; simp [isNo] at h2⟩
    | succ i =>
      obtain ⟨f, f1, f2, f3, f4⟩ := i2 i (by simpa using hi)
      exact ⟨f, by simpa [fieldAt] using f1, by rw [f2]; simp [sizes]; omega, by simpa [nth] using f3, f4⟩

theorem zero_st {t : TypeId} {fs : List (TypeId × Nat)} (h : E.ty t = .st fs) : zero E t = .agg (fs.map fun f => zeroA E 19 f.1) := by
  simp only [zero, zeroA, h]
theorem zero_arr {t e : TypeId} {n : Nat} (h : E.ty t = .arr n e) : zero E t = .arr e n (List.replicate n (E.dflt e)) := by
  simp only [zero, zeroA, h]

theorem RVs_of (x : List (A U)) : True := trivial

theorem op_build_st (ok : EnvOk2 E) (R : Rel E s N a.tmps w ι St) (t : TypeId) (ps : Array (Nat × Operand)) (ho : o.op = .build t ps) {z : List (A U)} (hz : zero E t = .agg z) {fs : List (TypeId × Nat)} (ht : E.ty t = .st fs)
    (hfit : ∀ k, k < z.length → ∃ f, fieldAt fs k = some f ∧ f.2 = sizes E.sz (z.take k) ∧ E.sz f.1 = size E.sz (nth z k) ∧ E.ty f.1 ≠ .no) (hlen : fs.length = z.length)
    (ty : Nat → TypeId) {l : List (A U)} (hs : setParts E z (ps.toList.map fun p => (p.1, s.ev E (ty p.1) p.2)) = some l) : Ops E s N a w ι St b o [] (.agg l) := by
  obtain ⟨i, zv, hi, hiz, hzr⟩ := ok.zer t (by rw [hz]; rfl)
  have h0 := hzr w St ι
  rw [hz] at h0
  obtain ⟨cs, rfl, h1⟩ := RV.agg_inv h0
  obtain ⟨fields, hu, hfs⟩ := under_st ok ht
  have hplaces : fields.toList.mapM (fun f => (E.P.info? f.type).map fun i => (f.offset, i.size)) = some (fs.map fun f => (f.2, E.sz f.1)) := by
    have : ∀ k, k < fields.toList.length → ∀ f, fields.toList[k]? = some f → (E.P.info? f.type).map (fun i => (f.offset, i.size)) = some (f.offset, E.sz f.type) := by
      intro k hk f hf
      have hk' : k < z.length := by rw [← hlen, hfs]; simpa using hk
      obtain ⟨g, g1, g2, g3, g4⟩ := hfit k hk'
      have : g = (f.type, f.offset) := by
        rw [hfs] at g1
        simp only [fieldAt, List.getElem?_map, hf, Option.map_some, Option.some.injEq] at g1
        exact g1.symm
      subst this
      obtain ⟨inf, e1, e2, -⟩ := ok.info f.type g4
      rw [e1]; simp [e2]
    rw [hfs, List.map_map]
    generalize fields.toList = fl at this
    clear hfs hu
    induction fl with
    | nil => rfl
    | cons f fl ih =>
      have hf := this 0 (by simp) f rfl
      have hr := ih fun k hk g hg => this (k + 1) (by simpa using hk) g (by simpa using hg)
      simp only [List.mapM_cons, hf, hr]
      rfl
  obtain ⟨cs', g1, g2, g3⟩ := fill_parts ok ((fs.map fun f => (f.2, E.sz f.1)).toArray[·]?) (ps.toList.map fun p => (p.1, s.ev E (ty p.1) p.2)) (ps.toList.map fun p => (p.1, a.eval p.2)) z l cs h1 hs (by simp)
    (by
      intro i k x k' v e1 e2
      simp only [List.getElem?_map, Option.map_eq_some_iff] at e1 e2
      obtain ⟨p, p1, p2⟩ := e1
      obtain ⟨p', p3, p4⟩ := e2
      rw [p1] at p3
      obtain rfl := Option.some.inj p3
      simp only [Prod.mk.injEq] at p2 p4
      obtain ⟨rfl, rfl⟩ := p2
      obtain ⟨rfl, rfl⟩ := p4
      exact ⟨rfl, ev_ok ok R _ _⟩)
    (by
      intro k hk
      obtain ⟨g, g1, g2, g3, g4⟩ := hfit k hk
      have hk2 : fs[k]? = some g := g1
      simp only [List.getElem?_toArray, List.getElem?_map, hk2, Option.map_some, Option.some.injEq, Prod.mk.injEq]
      exact ⟨g2, g3⟩)
  have hrun : (Instr.build t (ps.map fun (i, x) => (i, a.eval x))).run E.P w = .ok (.agg cs') w := by
    refine run_build w t _ _ ?_
    have : (ps.map fun (i, x) => (i, a.eval x)).toList = ps.toList.map fun p => (p.1, a.eval p.2) := by simp
    unfold Program.built
    simp only [hi, hu, hiz, hplaces, this]
    exact g1
  refine Ops.pure R (u := .agg cs') ?_ (RT.of_rv ⟨by show RC E w St ι [.agg l] cs'.toList []; simpa using RC.agg g2 .nil, rfl⟩)
  simp only [execOp, ho]
  rw [Sem.run_bind, hrun]
  rfl

theorem op_build_arr (ok : EnvOk2 E) (R : Rel E s N a.tmps w ι St) (t : TypeId) (ps : Array (Nat × Operand)) (ho : o.op = .build t ps) {c n : Nat} {z : List (U c)} (hz : zero E t = .arr c n z) (ht : E.ty t = .arr n c)
    {l : List (A U)} {xs : List (U c)} (hs : setParts E (z.map (E.enc c)) ((ps.toList.map (·.1)).zip (frzs s.h (ps.toList.map fun p => s.ev E c p.2))) = some l) (hx : decs E c l = some xs)
    (hh : holes (frzs s.h (ps.toList.map fun p => s.ev E c p.2)) = false) (hne : (isNo (E.ty c) || Nat.beq (E.sz c) 0) = false) :
    Ops E s N a w ι St b o (frzNs s.h (ps.toList.map fun p => s.ev E c p.2)) (.arr c n xs) := by
  simp only [Bool.or_eq_false_iff] at hne
  have hno : E.ty c ≠ .no := fun h => by rw [h] at hne; simp [isNo] at hne
  obtain ⟨i, zv, hi, hiz, hzr⟩ := ok.zer t (by rw [hz]; rfl)
  obtain ⟨ic, hic, hisz, -⟩ := ok.info c hno
  obtain ⟨St1, x1, gg, R1, f1, d1⟩ := frz_vals ok R c ps.toList _ _ hs hh
  have h0 := hzr w St1 ι
  rw [hz] at h0
  obtain ⟨cs, rfl, hzl, h1⟩ := RV.arr_inv h0
  have len_frzs : ∀ m : List (A U), (frzs s.h m).length = m.length := by intro m; induction m with | nil => rfl | cons q m ih => simp [frzs, ih]
  obtain ⟨cs', g1, g2, g3⟩ := fill_parts ok (fun i => some (i * E.sz c, E.sz c)) _ (ps.toList.map fun p => (p.1, a.eval p.2)) _ _ _ h1 hs (by simp [len_frzs]) d1 (by
      intro k hk
      have hk' : k < z.length := by simpa using hk
      congr 2
      · rw [← List.map_take, sizes_enc ok.toEnvOk]; simp; rw [Nat.min_eq_left (by omega)]
      · rw [nth_eq, List.getD, List.getElem?_eq_getElem hk]; simp [ok.encSize])
  have hl := decs_enc ok.toEnvOk c l xs hx
  subst hl
  have hn : xs.length = n := by have := (setParts_known _ _ _ hs).2; simp at this; omega
  have hrun : (Instr.build t (ps.map fun (i, x) => (i, a.eval x))).run E.P w = .ok (.agg cs') w := by
    refine run_build w t _ _ ?_
    have : (ps.map fun (i, x) => (i, a.eval x)).toList = ps.toList.map fun p => (p.1, a.eval p.2) := by simp
    unfold Program.built
    simp only [hi, under_arr ok ht, hiz, hic, this, hisz]
    exact g1
  refine Ops.pure_after (u := .agg cs') rfl f1 gg R1 ?_ (RT.of_rv ⟨by show RC E w St1 ι [.arr c n xs] cs'.toList []; simpa using RC.arr hn g2 .nil, rfl⟩)
  simp only [execOp, ho]
  rw [Sem.run_bind, hrun]
  rfl

-- slices of slices
theorem bound_run (k : IntKind) (i : Int) (y : Nat) (c : BoundsCode) (h0 : 0 ≤ i) (h1 : i ≤ y) : (Instr.sliceBound (.int k i) y c).run E.P w = .ok i.toNat w := by
  simp [Instr.sliceBound, asIntOf, h0, h1]

/-- the bounds, where they are given or not -/
theorem bounds_run (isS : Bool) (n cap : Nat) (lo hi : Option Value) (l h : Int) (hl : lo = none ∧ l = 0 ∨ ∃ k, lo = some (.int k l)) (hh : hi = none ∧ h = n ∨ ∃ k, hi = some (.int k h))
    (h0 : 0 ≤ l) (h1 : l ≤ h) (h2 : h ≤ n) (hc : n ≤ cap) : (Instr.sliceBounds isS n cap lo hi none).run E.P w = .ok (l.toNat, h.toNat, cap) w := by
  have b1 : ∀ k c, (Instr.sliceBound (.int k h) cap c).run E.P w = .ok h.toNat w := fun k c => bound_run k h cap c (by omega) (by omega)
  have b2 : ∀ k c, (Instr.sliceBound (.int k l) h.toNat c).run E.P w = .ok l.toNat w := fun k c => bound_run k l h.toNat c h0 (by omega)
  rcases hl with ⟨rfl, rfl⟩ | ⟨k, rfl⟩ <;> rcases hh with ⟨rfl, rfl⟩ | ⟨k', rfl⟩
  · simp [Instr.sliceBounds]
  · simp [Instr.sliceBounds, b1]
  · have b3 : ∀ k c, (Instr.sliceBound (.int k l) n c).run E.P w = .ok l.toNat w := fun k c => bound_run k l n c h0 (by omega)
    simp [Instr.sliceBounds, b3]
  · simp [Instr.sliceBounds, b1, b2]

theorem optI_ok (ok : EnvOk2 E) (R : Rel E s N a.tmps w ι St) (d : Int) (x : Option Operand) {i : Int} (h : optI d (x.map (s.ev E 0)) = some i) : x.map a.eval = none ∧ i = d ∨ ∃ k, x.map a.eval = some (.int k i) := by
  cases x with
  | none => simp only [Option.map_none, optI, Option.some.injEq] at h; exact .inl ⟨rfl, h.symm⟩
  | some x =>
    simp only [Option.map_some, optI] at h
    cases hx : s.ev E 0 x with
    | int k n =>
      rw [hx] at h
      simp only [Option.some.injEq] at h
      subst h
      have := ev_ok ok R 0 x
      rw [hx] at this
      exact .inr ⟨k, by simp [RV.int_inv this]⟩
    | _ => rw [hx] at h; simp at h

/-- a slice, cut -/
theorem slice_run (ok : EnvOk2 E) {t e : TypeId} (ht : E.ty t = .sl e) (hne : E.ty e ≠ .no) (a' : Option Addr) (n cap : Nat) (hspot : ∀ x, a' = some x → x.spot = none) (lo hi : Option Value) (l h : Int)
    (hl : lo = none ∧ l = 0 ∨ ∃ k, lo = some (.int k l)) (hh : hi = none ∧ h = n ∨ ∃ k, hi = some (.int k h)) (h0 : 0 ≤ l) (h1 : l ≤ h) (h2 : h ≤ n) (hc : n ≤ cap) :
    (Instr.sliceAt t (.slice a' n cap) lo hi none).run E.P w = .ok (.slice (if cap = l.toNat then a' else a'.map (·.add (l.toNat * E.sz e))) (h.toNat - l.toNat) (cap - l.toNat)) w := by
  obtain ⟨i, hi', hs, -⟩ := ok.info e hne
  have hb := bounds_run (E := E) (w := w) true n cap lo hi l h hl hh h0 h1 h2 hc
  simp [Instr.sliceAt, Instr.slice, run_underlying (under_sl ok ht), hb, sizeOf, typeInfo, hi', hs]

theorem op_slice_ro (ok : EnvOk2 E) (R : Rel E s N a.tmps w ι St) (t : TypeId) (x : Operand) (lo hi : Option Operand) (ho : o.op = .slice t x lo hi none) {g : Bool} {c : Nat} {l : List (U c)} (hx : s.ev E t x = .ro g c l) (ht : slOf E t c = true)
    {i j : Int} (h1 : optI 0 (lo.map (s.ev E 0)) = some i) (h2 : optI (l.length : Int) (hi.map (s.ev E 0)) = some j) (b0 : 0 ≤ i) (b1 : i ≤ j) (b2 : j ≤ (l.length : Int)) :
    Ops E s N a w ι St b o [] (.ro g c (cut l i.toNat (j - i).toNat)) := by
  obtain ⟨t1, t2⟩ := slOf_iff ok ht
  have hv := ev_ok ok R t x
  rw [hx] at hv
  obtain ⟨a', cap, q1, q2⟩ := RV.ro_inv hv
  have i1 := optI_ok ok R 0 lo h1
  have i2 := optI_ok ok R _ hi h2
  have hlen : (cut l i.toNat (j - i).toNat).length = (j - i).toNat := by simp only [cut, List.length_take, List.length_drop]; omega
  by_cases hz : (j - i).toNat = 0
  · have hnil : cut l i.toNat (j - i).toNat = [] := List.eq_nil_of_length_eq_zero (by omega)
    rw [hnil]
    -- an empty slice: its address is no matter
    have key : ∃ a'' cap', (Instr.sliceAt t (.slice a' l.length cap) (lo.map a.eval) (hi.map a.eval) none).run E.P w = .ok (.slice a'' 0 cap') w := by
      obtain ⟨inf, hinf, hs, -⟩ := ok.info c t2
      rcases q2 with rfl | ⟨ds, B, off, rfl, q3, q4, q5, q6⟩
      · have hi0 : i = 0 := by simp at b2; omega
        have hj0 : j = 0 := by simp at b2; omega
        subst hi0; subst hj0
        have b3 : ∀ (k : IntKind) (y : Nat) c, (Instr.sliceBound (.int k 0) y c).run E.P w = .ok 0 w := fun k y c => bound_run (E := E) k 0 y c (by omega) (by omega)
        rcases i1 with ⟨e1, -⟩ | ⟨k, e1⟩ <;> rcases i2 with ⟨e2, -⟩ | ⟨k', e2⟩ <;> rw [e1, e2] <;>
          exact ⟨_, _, by simp [Instr.sliceAt, Instr.slice, Instr.sliceBounds, run_underlying (under_sl ok t1), b3, sizeOf, typeInfo, hinf, hs]; exact ⟨rfl, rfl⟩⟩
      · have := slice_run (w := w) ok t1 t2 (some ⟨B, off, .none⟩) l.length cap (by simp) (lo.map a.eval) (hi.map a.eval) i j i1 i2 b0 b1 b2 q6
        exact ⟨_, _, by rw [this, show j.toNat - i.toNat = 0 by omega]⟩
    obtain ⟨a'', cap', key⟩ := key
    exact Ops.pure R (u := .slice a'' 0 cap') (by simp [execOp, ho, q1, key]) (RT.of_rv (.mk1 (.roE .nil) rfl rfl))
  · rcases q2 with rfl | ⟨ds, B, off, rfl, q3, q4, q5, q6⟩
    · simp at b2; omega
    · have hrun := slice_run (w := w) ok t1 t2 (some ⟨B, off, .none⟩) l.length cap (by simp) (lo.map a.eval) (hi.map a.eval) i j i1 i2 b0 b1 b2 q6
      rw [if_neg (by omega)] at hrun
      simp only [Option.map_some, Addr.add_eq] at hrun
      refine Ops.pure R (u := _) (by simp [execOp, ho, q1, hrun]; rfl) (RT.of_rv (.mk1 ?_ rfl rfl))
      have e : j.toNat - i.toNat = (cut l i.toNat (j - i).toNat).length := by omega
      rw [e]
      have hsz : (ds.drop (i.toNat * E.sz c)).take ((j - i).toNat * E.sz c) = (ds.drop (i.toNat * E.sz c)).take ((j - i).toNat * E.sz c) := rfl
      refine .ro (ds := (ds.drop (i.toNat * E.sz c)).take ((j - i).toNat * E.sz c)) ?_ (rangeAt_sub q4 _ _) q5 (by omega) .nil
      -- the elements of the cut
      have hx1 : l = l.take i.toNat ++ (cut l i.toNat (j - i).toNat ++ l.drop (i.toNat + (j - i).toNat)) := by
        have h1 := List.take_append_drop i.toNat l
        have h2 := List.take_append_drop (j - i).toNat (l.drop i.toNat)
        rw [List.drop_drop] at h2
        conv => lhs; rw [← h1, ← h2]
        rfl
      have hm := congrArg (List.map (E.enc c)) hx1
      rw [hm] at q3
      simp only [List.map_append] at q3
      obtain ⟨c1, c2, b1', b2', rfl, hb, p1, p2⟩ := RC.split q3
      obtain ⟨rfl, rfl⟩ := nil_or hb
      obtain ⟨d1, d2, e1, e2, rfl, he, p3, p4⟩ := RC.split p2
      obtain ⟨rfl, rfl⟩ := nil_or he
      have l1 := p1.length ok.toEnvOk
      have l3 := p3.length ok.toEnvOk
      rw [sizes_enc ok.toEnvOk] at l1 l3
      rw [hlen] at l3
      rw [List.length_take, Nat.min_eq_left (by omega)] at l1
      rw [← l1, ← l3]
      simpa using p3
end
end Go.V
