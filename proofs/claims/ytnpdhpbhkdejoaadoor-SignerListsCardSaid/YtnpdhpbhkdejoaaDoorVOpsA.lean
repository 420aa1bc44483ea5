/- V: append as the plan has it; equal truth values; a list's element written. -/
import Derived.Test.YtnpdhpbhkdejoaaDoorVOps9
import Derived.Laws.StructEq
set_option linter.unusedVariables false
set_option linter.unusedSimpArgs false
namespace Go.V
variable {U : Nat → Type}
section
variable {E : Env U} {w : World} {St : Bool → Nat → Prop} {ι : Nat → Option Value} {s : S U} {N : Nat} {a : Act} {b : Nat} {o : Oper}

theorem op_append_nils (ok : EnvOk2 E) (R : Rel E s N a.tmps w ι St) (hb : ι b = none) (hd : isLive (s.h b) = false) {t tx c : TypeId} {x y : Operand} {cl : Call} (hc : cl.callee = .builtin .append) (ho : o.op = .call cl) (ha : cl.args.toList = [x, y]) (hat : cl.argTypes.toList = [t, tx])
    (ht : slOf E t c = true) (hx : s.ev E t x = .nils c) {l : List (U c)} (hy : SrcOk E w St ι c tx (a.eval y) l) (hroom : room l.length (E.by' c)) : Ops E s N a w ι St b o [(b, .lst c l)] (.own b) := by
  obtain ⟨t1, t2, t3⟩ := slOf_iff' ok ht
  have hv := ev_ok ok R t x
  rw [hx] at hv
  have hxv := RV.nils_inv hv
  by_cases hl : l = []
  · subst hl
    obtain ⟨news, h3, h4⟩ := hy.src
    obtain ⟨i, hi, hs, hbb⟩ := ok.info c t2
    have hrun : (Builtin.append_ #[t, tx] o.type #[a.eval x, a.eval y]).run E.P w = .ok (.slice .none 0 0) w := by
      have hcl : news = [] := List.eq_nil_of_length_eq_zero (by rw [h3.newsLen]; simp)
      subst hcl
      have hc0 : (Builtin.firstCells i.size 0 (a.eval y)).run E.P w = .ok #[] w := by rw [hs]; exact h3.cells
      rw [hxv]
      rcases h3.kind with ⟨e', hk⟩ | hk <;> simp [Builtin.append_, run_underlying (under_sl ok t1), run_underlying hk, sizeOf, typeInfo, hi, h3.len, hc0]
    have e := fresh_ext (b := b) (v := some (.slice .none 0 0)) hb (Fr.refl (fun _ => False) w) R.stb
    exact Ops.fresh R hb hd (u := .slice .none 0 0) (x := .slice .none 0 0) (append_op hc ho ha hat hrun) (Fr.refl _ _) (.inl rfl) (.inl ⟨⟨_, rfl⟩, rfl⟩) (RT.of_rv (.mk1 (.own (upd_same _ _ _) .nil) rfl rfl))
  · have hlen : 0 < l.length := List.length_pos_iff.2 hl
    have := Ops.grown ok R hb hd hc ho ha hat t1 t2 t3 (lx := []) (a' := .none) (cap := 0) (by rw [hxv]; rfl) (src_nil (under_sl ok t1) 0) hy (by simpa using hlen) (by simpa using hroom)
    simpa using this

theorem op_append_own (ok : EnvOk2 E) (R : Rel E s N a.tmps w ι St) (hb : ι b = none) (hd : isLive (s.h b) = false) {t tx c : TypeId} {x y : Operand} {cl : Call} (hc : cl.callee = .builtin .append) (ho : o.op = .call cl) (ha : cl.args.toList = [x, y]) (hat : cl.argTypes.toList = [t, tx])
    (ht : slOf E t c = true) {m : Nat} (hx : s.ev E t x = .own m) {lx : List (U c)} (hm : s.h m = .lst c lx) {l : List (U c)} (hy : SrcOk E w St ι c tx (a.eval y) l) (hroom : room (lx.length + l.length) (E.by' c)) :
    Ops E s N a w ι St b o [(m, .dead), (b, .lst c (lx ++ l))] (.own b) := by
  obtain ⟨t1, t2, t3⟩ := slOf_iff' ok ht
  have hv := ev_ok ok R t x
  rw [hx] at hv
  obtain ⟨a', L, C, h1, h2⟩ := RV.own_inv hv
  have h0 := R.obj m
  rw [hm] at h0
  have hbm : b ≠ m := fun e => by subst e; rw [hb] at h2; simp at h2
  have hl : isLive (s.h m) = true := by rw [hm]; rfl
  -- the way by a new row, the old name gone
  have new : ∀ (a' : Option Addr) (cap : Nat), a.eval x = .slice a' lx.length cap → SrcOk E w St ι c t (.slice a' lx.length cap) lx → cap < lx.length + l.length → Ops E s N a w ι St b o [(m, .dead), (b, .lst c (lx ++ l))] (.own b) := by
    intro a' cap q1 q2 q3
    refine Ops.behind (wr1 := [(m, .dead)]) (s1 := { s with h := upds s.h [(m, .dead)] }) (St1 := St) rfl (fun n hn => (kill_live _ _ _ hn).2) (fun _ _ h => .inl h) ?_
    exact Ops.grown ok (R.kill m) hb (by show isLive (upd s.h m .dead b) = false; rw [upd_ne _ _ hbm]; exact hd) hc ho ha hat t1 t2 t3 q1 q2 hy q3 hroom
  rcases h0 with ⟨⟨a0, e1⟩, e2⟩ | ⟨B, off, cap, ds, e1, e2, e3, e4, e5, e6⟩
  · rw [h2] at e1
    simp only [Option.some.injEq] at e1
    rw [e1] at h1
    subst e2
    by_cases hl0 : l = []
    · subst hl0
      refine Ops.behind (wr1 := [(m, .dead)]) (s1 := { s with h := upds s.h [(m, .dead)] }) (St1 := St) rfl (fun n hn => (kill_live _ _ _ hn).2) (fun _ _ h => .inl h) ?_
      obtain ⟨news, h3, h4⟩ := hy.src
      obtain ⟨i, hi, hs, hbb⟩ := ok.info c t2
      have hrun : (Builtin.append_ #[t, tx] o.type #[a.eval x, a.eval y]).run E.P w = .ok (.slice a0 0 0) w := by
        have hcl : news = [] := List.eq_nil_of_length_eq_zero (by rw [h3.newsLen]; simp)
        subst hcl
        have hc0 : (Builtin.firstCells i.size 0 (a.eval y)).run E.P w = .ok #[] w := by rw [hs]; exact h3.cells
        rw [h1]
        rcases h3.kind with ⟨e', hk⟩ | hk <;> cases a0 <;> simp [Builtin.append_, run_underlying (under_sl ok t1), run_underlying hk, sizeOf, typeInfo, hi, h3.len, hc0, storeCells, Result.andThen]
      exact Ops.fresh (R.kill m) hb (by show isLive (upd s.h m .dead b) = false; rw [upd_ne _ _ hbm]; exact hd) (u := .slice a0 0 0) (x := .slice a0 0 0) (append_op hc ho ha hat hrun) (Fr.refl _ _) (.inl (by unfold blk; rw [base_zero]; rfl)) (.inl ⟨⟨_, rfl⟩, rfl⟩) (RT.of_rv (.mk1 (.own (upd_same _ _ _) .nil) rfl rfl))
    · have hlen : 0 < l.length := List.length_pos_iff.2 hl0
      exact new a0 0 (by rw [h1]; rfl) (src_empty (under_sl ok t1) a0 0) (by simpa using hlen)
  · rw [h2] at e1
    simp only [Option.some.injEq] at e1
    rw [e1] at h1 h2
    by_cases hcap : lx.length + l.length ≤ cap + 1
    · exact Ops.longer ok R hb hd hc ho ha hat t1 t2 (Nat.succ_pos _) hl (by rw [h2]; rfl) e6 hbm h1 e2 e3 e4 hy hcap
    · exact new _ (cap + 1) h1 (src_cells ok (under_sl ok t1) e2 e3) (by omega)

/-- a clipped list, longer: always in a new row (but where there is nothing at all) -/
theorem op_append_clip (ok : EnvOk2 E) (R : Rel E s N a.tmps w ι St) (hb : ι b = none) (hd : isLive (s.h b) = false) {t tx c : TypeId} {x y : Operand} {cl : Call} (hc : cl.callee = .builtin .append) (ho : o.op = .call cl) (ha : cl.args.toList = [x, y]) (hat : cl.argTypes.toList = [t, tx])
    (ht : slOf E t c = true) {g : Bool} {lx : List (U c)} (hx : s.ev E t x = .clip g c lx) {l : List (U c)} (hy : SrcOk E w St ι c tx (a.eval y) l) (hroom : room (lx.length + l.length) (E.by' c)) (hne : lx = [] ∨ l ≠ []) :
    Ops E s N a w ι St b o [(b, .lst c (lx ++ l))] (.own b) := by
  obtain ⟨t1, t2, t3⟩ := slOf_iff' ok ht
  have hv := ev_ok ok R t x
  rw [hx] at hv
  obtain ⟨a0, h1, h2⟩ := RV.clip_inv hv
  by_cases hl0 : l = []
  · subst hl0
    obtain rfl := hne.resolve_right (fun h => h rfl)
    obtain ⟨news, h3, h4⟩ := hy.src
    obtain ⟨i, hi, hs, hbb⟩ := ok.info c t2
    have hrun : (Builtin.append_ #[t, tx] o.type #[a.eval x, a.eval y]).run E.P w = .ok (.slice a0 0 0) w := by
      have hcl : news = [] := List.eq_nil_of_length_eq_zero (by rw [h3.newsLen]; simp)
      subst hcl
      have hc0 : (Builtin.firstCells i.size 0 (a.eval y)).run E.P w = .ok #[] w := by rw [hs]; exact h3.cells
      rw [h1]
      rcases h3.kind with ⟨e', hk⟩ | hk <;> cases a0 <;> simp [Builtin.append_, run_underlying (under_sl ok t1), run_underlying hk, sizeOf, typeInfo, hi, h3.len, hc0, storeCells, Result.andThen]
    exact Ops.fresh R hb hd (u := .slice a0 0 0) (x := .slice a0 0 0) (append_op hc ho ha hat hrun) (Fr.refl _ _) (.inl (by unfold blk; rw [base_zero]; rfl)) (.inl ⟨⟨_, rfl⟩, rfl⟩) (RT.of_rv (.mk1 (.own (upd_same _ _ _) .nil) rfl rfl))
  · have hlen : 0 < l.length := List.length_pos_iff.2 hl0
    refine Ops.grown ok R hb hd hc ho ha hat t1 t2 t3 (lx := lx) (a' := a0) (cap := lx.length) h1 ?_ hy (by omega) hroom
    rcases h2 with rfl | ⟨ds, B, off, rfl, q1, q2, q3⟩
    · exact src_empty (under_sl ok t1) a0 _
    · exact src_cells ok (under_sl ok t1) q1 q2

theorem op_eq_bool (ok : EnvOk2 E) (R : Rel E s N a.tmps w ι St) (op : BinOp) (t ty : TypeId) (x y : Operand) (ho : o.op = .binOp op t x y ty) (ht : E.ty t = .bool) {p q : Bool} (hx : s.ev E t x = .bool p) (hy : s.ev E ty y = .bool q) {v : A U} (hv : op = .eql ∧ v = .bool (p == q) ∨ op = .neq ∧ v = .bool (!(p == q))) :
    Ops E s N a w ι St b o [] v := by
  have h1 := ev_ok ok R t x
  have h2 := ev_ok ok R ty y
  rw [hx] at h1; rw [hy] at h2
  have h1 := RV.bool_inv h1
  have h2 := RV.bool_inv h2
  have hu : E.P.underlying t = some .bool := by have := ok.under t; rw [ht] at this; exact this
  rcases hv with ⟨rfl, rfl⟩ | ⟨rfl, rfl⟩
  · exact Ops.pure R (u := .bool (p == q)) (by simp [execOp, ho, h1, h2, eqGuard, binOp, Op.equal, Op.maxDepth, run_equalIn_bool w 9999 t p q hu]) (RT.of_rv (.mk1 (.bool .nil) rfl rfl))
  · exact Ops.pure R (u := .bool (!(p == q))) (by simp [execOp, ho, h1, h2, eqGuard, binOp, Op.equal, Op.maxDepth, run_equalIn_bool w 9999 t p q hu]) (RT.of_rv (.mk1 (.bool .nil) rfl rfl))

/-- an element of a list of one's own is written -/
theorem op_store_lst (ok : EnvOk2 E) (R : Rel E s N a.tmps w ι St) (t : TypeId) (x y : Operand) (ho : o.op = .store t x y) {n : Nat} {p : List Step} (hx : s.ev E 0 x = .ptr n p) {c : Nat} {l : List (U c)} (hn : s.h n = .lst c l) {o' : AObj U}
    (hf : fits E t (frz s.h (s.ev E t y)) = true) (hh : hole (frz s.h (s.ev E t y)) = false) (hmem : memN n ((frzN s.h (s.ev E t y)).map (·.1)) = false) (hp : setO E (.lst c l) p (frz s.h (s.ev E t y)) = some o') :
    Ops E s N a w ι St b o (frzN s.h (s.ev E t y) ++ [(n, o')]) .none := by
  have h1 := ev_ok ok R 0 x
  rw [hx] at h1
  obtain ⟨u, B, off, q1, q2, q3, q4⟩ := RV.ptr_inv h1
  have h2 := (ev_ok ok R t y).rv (frz_known _ _ (fits_iff hf).1)
  obtain ⟨St1, x1, gg, R1, f1, d1⟩ := frz_ok ok (s.ev E t y) (Frz.refl s.h) R h2.1 hh
  -- the list stands as it stood
  have hnot : ∀ (l : List (Nat × AObj U)) (h : Nat → AObj U), memN n (l.map (·.1)) = false → upds h l n = h n := by
    intro l
    induction l with
    | nil => intro h _; rfl
    | cons x l ih =>
      intro h hm
      obtain ⟨k, z⟩ := x
      simp only [List.map_cons, memN, Bool.or_eq_false_iff] at hm
      simp only [upds]
      rw [ih _ hm.2, upd_ne]
      intro e
      subst e
      simp at hm
  have hn1 : upds s.h (frzN s.h (s.ev E t y)) n = .lst c l := by rw [hnot _ _ hmem, hn]
  -- the element
  cases p with
  | nil => simp [setO] at hp
  | cons st p =>
    cases st with
    | elt i e =>
      simp only [setO] at hp
      cases he : Nat.beq (E.sz c) e with
      | false => rw [he] at hp; simp at hp
      | true =>
        rw [he] at hp
        simp only [cond_true] at hp
        have he' := Nat.eq_of_beq_eq_true he
        subst he'
        cases hsp : setP E (E.enc c (l.getD i (E.dflt c))) p (frz s.h (s.ev E t y)) with
        | none => rw [hsp] at hp; simp at hp
        | some q =>
          rw [hsp] at hp
          cases hdec : E.dec c q with
          | none => simp [hdec] at hp
          | some z =>
            simp only [hdec, Option.some.injEq] at hp
            subst hp
            have h0 := R1.obj n
            simp only [hn1] at h0
            rcases h0 with ⟨⟨a0, r1⟩, r2⟩ | ⟨B', off', cap0, ds, r1, r2, r3, r4, r5, r6⟩
            · rw [q1] at r1
              simp only [Option.some.injEq] at r1
              subst r1
              simp [base_zero] at q2
            · rw [q1] at r1
              simp only [Option.some.injEq] at r1
              subst r1
              simp only [base, Option.some.injEq, Prod.mk.injEq] at q2
              obtain ⟨rfl, rfl⟩ := q2
              obtain ⟨cap, hcap⟩ : ∃ cap, cap = cap0 + 1 := ⟨_, rfl⟩
              have hcap0 : 0 < cap := by omega
              rw [← hcap] at q1 r4 r5
              have hi : i < l.length := q3.1
              obtain ⟨c1, c2, c3, rfl, p1, p2, p3, p4, p5⟩ := r2.elems ok.toEnvOk hi
              obtain ⟨g1, g2, g3, g4, g5⟩ := p2.setP ok.toEnvOk p q3.2 hsp d1
              have hv1 : RV E w St1 ι (frz s.h (s.ev E t y)) (a.eval y) := by
                refine ⟨d1, ?_⟩
                rw [h2.2]
                cases hq : s.ev E t y with
                | clip g c l => cases g <;> rfl
                | own m => simp only [frz]; cases hm : s.h m <;> rfl
                | _ => rfl
              have hlen : c2.length ≤ cap * E.sz c - i * E.sz c := by
                have := Nat.mul_le_mul_right (E.sz c) (show i + 1 ≤ cap by omega)
                rw [Nat.add_mul] at this
                omega
              have hcapi : i * E.sz c + E.sz c ≤ cap * E.sz c := by
                have := Nat.mul_le_mul_right (E.sz c) (show i + 1 ≤ cap by omega)
                rw [Nat.add_mul] at this
                omega
              have hrun := store_run ok hf hv1 r4 (i := i * E.sz c + po p) (by omega)
              have hpo : off' + po (.elt i (E.sz c) :: p) = off' + (i * E.sz c + po p) := rfl
              rw [hpo] at q4
              -- the world behind
              have hl : isLive (s.h n) = true := by rw [hn]; rfl
              have hl1 : isLive (upds s.h (frzN s.h (s.ev E t y)) n) = true := by rw [hn1]; rfl
              have hB : blkO (ι n) = some B' := by rw [q1]; exact blk_pos hcap0
              have hSt : ¬ An St1 B' := R1.apt n B' hl1 hB
              generalize hw' : w.setCells B' (off' + (i * E.sz c + po p)) (a.eval y).cells.toList = w' at hrun
              have hsame : ∀ B, B ≠ B' → w'.heap[B]? = w.heap[B]? := fun B h => by rw [← hw']; exact heap_setCells B' _ _ w B h
              have hsz' : w'.heap.size = w.heap.size := by rw [← hw', size_setCells]
              have hx1 : Ext w St1 ι w' St1 ι := ⟨fun _ _ h => h, fun _ _ h => h, fun b hb => hsame b fun e => hSt (e ▸ hb), by omega⟩
              have hfree : ∀ k, isLive (upd (upds s.h (frzN s.h (s.ev E t y))) n .dead k) = true → blkO (ι k) ≠ some B' := by
                intro k hk hk2
                by_cases e : k = n
                · subst e; rw [upd_same] at hk; simp [isLive] at hk
                · rw [upd_ne _ _ e] at hk
                  exact e (R1.dis k n B' hk hl1 hk2 hB)
              have R2 := (R1.kill n).world (w' := w') (by omega) (fun B hB' => hsame B fun e => hSt (e ▸ hB')) (fun k B hk hB' => hsame B fun e => hfree k hk (e ▸ hB'))
              have hι' : upd ι n (some (.slice (some ⟨B', off', .none⟩) l.length cap)) = ι := by rw [← q1, upd_self]
              have hcells : (c1 ++ (c2.take (po p) ++ ((a.eval y).cells.toList ++ c2.drop (po p + (a.eval y).cells.toList.length)) ++ c3)) =
                  (c1 ++ (c2 ++ c3)).take (i * E.sz c + po p) ++ ((a.eval y).cells.toList ++ (c1 ++ (c2 ++ c3)).drop (i * E.sz c + po p + (a.eval y).cells.toList.length)) := by
                rw [take_mid p4 (by omega), Nat.add_assoc, drop_mid p4 g2]
                simp
              have R3 := R2.adopt n (.lst c (l.set i z)) (.slice (some ⟨B', off', .none⟩) l.length cap) (by
                  show isLive (upd (upds s.h (frzN s.h (s.ev E t y))) n .dead n) = false; rw [upd_same]; rfl) (.inr q1)
                (by
                  rw [hι']
                  refine RO.lst_of (B := B') (off := off') (cap := cap) (ds := c1 ++ (c2.take (po p) ++ ((a.eval y).cells.toList ++ c2.drop (po p + (a.eval y).cells.toList.length)) ++ c3)) hcap0 (by simp) ?_ ?_ (by rw [← hw']; exact there_setCells r4) (by simpa using r5) (by omega)
                  · have hz := ok.decEnc c q z hdec
                    rw [← hz] at g1
                    have := (RC.append p1 (RC.cons g1 p3)).ext hx1
                    have hm : (l.set i z).map (E.enc c) = (l.take i).map (E.enc c) ++ E.enc c z :: (l.drop (i + 1)).map (E.enc c) := by rw [set_cut l i z hi]; simp
                    rw [hm]
                    exact this
                  · rw [hcells, ← hw']
                    exact range_splice r3 (by simp only [List.length_append]; omega))
                (fun B _ hB2 => by
                  obtain rfl := (blk_inv hB2).1
                  exact ⟨hSt, hfree⟩)
              rw [hι'] at R3
              have e9 : upd (upd (upds s.h (frzN s.h (s.ev E t y))) n .dead) n (.lst c (l.set i z)) = upds s.h (frzN s.h (s.ev E t y) ++ [(n, .lst c (l.set i z))]) := by
                rw [upd_upd, upds_append]; rfl
              simp only [] at R3
              rw [e9] at R3
              refine ⟨.skip, undef, w', ι, St1, ?_, .inr ⟨rfl, rfl⟩, R3, trivial, ?_, fun _ _ h => h, fun _ h => .inl h, ?_, gg⟩
              · simp [execOp, ho, q4, hrun]
              · rw [← hw']; exact Fr.setCells w B' _ _ ⟨n, hl, hB⟩
              · rintro B ⟨k, k1, k2⟩
                by_cases e : k = n
                · subst e; exact .inl ⟨k, hl, k2⟩
                · have k1' : isLive (upds s.h (frzN s.h (s.ev E t y) ++ [(n, .lst c (l.set i z))]) k) = true := k1
                  rw [upds_append] at k1'
                  simp only [upds, upd_ne _ _ e] at k1'
                  exact .inl ⟨k, f1.live k1', k2⟩
    | _ => simp [setO] at hp
end
end Go.V
