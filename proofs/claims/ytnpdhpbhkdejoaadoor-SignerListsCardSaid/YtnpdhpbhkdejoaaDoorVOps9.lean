/- V: append. -/
import Derived.Test.YtnpdhpbhkdejoaaDoorVOps8
import Derived.Laws.Append
set_option linter.unusedVariables false
set_option linter.unusedSimpArgs false
namespace Go.V
variable {U : Nat → Type}
section
variable {E : Env U} {w : World} {St : Bool → Nat → Prop} {ι : Nat → Option Value} {s : S U} {N : Nat} {a : Act} {b : Nat} {o : Oper}

theorem Ops.behind {s1 : S U} {wr1 wr2 : List (Nat × AObj U)} {v : A U} {St1 : Bool → Nat → Prop} (hs : s1 = { s with h := upds s.h wr1 }) (f : ∀ n, isLive (s1.h n) = true → isLive (s.h n) = true) (hg : ∀ g B, St1 g B → St g B ∨ Own s ι B) (h : Ops E s1 N a w ι St1 b o wr2 v) : Ops E s N a w ι St b o (wr1 ++ wr2) v := by
  obtain ⟨nx, u, w', ι', St', q⟩ := h
  have hO : ∀ B, Own s1 ι B → Own s ι B := fun B ⟨n, h1, h2⟩ => ⟨n, f n h1, h2⟩
  subst hs
  refine ⟨nx, u, w', ι', St', q.run, q.nxt, by rw [upds_append]; exact q.rel, q.val, q.fr.mono fun B _ h => hO B h, q.nm, q.new, fun B hB => ?_, fun g B h => (q.gr g B h).elim (hg g B) fun h => .inr (hO B h)⟩
  rw [upds_append] at hB
  exact (q.own B hB).imp (hO B) id

theorem kill_live (h : Nat → AObj U) (m n : Nat) (hl : isLive (upds h [(m, .dead)] n) = true) : n ≠ m ∧ isLive (h n) = true := by
  by_cases e : n = m
  · subst e; simp [upds, isLive] at hl
  · simp only [upds, upd_ne _ _ e] at hl; exact ⟨e, hl⟩

theorem zeroCells_size (z : Array Value) (n : Nat) : (Builtin.zeroCells z n).size = n * z.size := by simp [Builtin.zeroCells]

/-- a new row -/
theorem append_grow_ok (ok : EnvOk2 E) {t tx c : TypeId} (ht : E.ty t = .sl c) (hne : E.ty c ≠ .no) (hby : E.by' c ≠ 0) {rt : TypeId} {a' : Option Addr} {cap : Nat} {y : Value} {lx l : List (U c)} (hx : SrcOk E w St ι c t (.slice a' lx.length cap) lx) (hy : SrcOk E w St ι c tx y l)
    (hcap : cap < lx.length + l.length) (hroom : room (lx.length + l.length) (E.by' c)) :
    ∃ C w' ds, (Builtin.append_ #[t, tx] rt #[.slice a' lx.length cap, y]).run E.P w = .ok (.slice (some ⟨w.heap.size, 0, .none⟩) (lx.length + l.length) C) w' ∧ Fr (fun _ => False) w w' ∧ w'.heap.size = w.heap.size + 1 ∧
      RC E w St ι ((lx ++ l).map (E.enc c)) ds [] ∧ w'.rangeAt w.heap.size 0 ds ∧ w'.there w.heap.size 0 (C * E.sz c) ∧ lx.length + l.length ≤ C := by
  obtain ⟨olds, h1, h2⟩ := hx.src
  obtain ⟨news, h3, h4⟩ := hy.src
  obtain ⟨i, z, hi, hiz, hzs, -⟩ := ok.dfl c hne
  obtain ⟨i', hi', hs, hb⟩ := ok.info c hne
  rw [hi] at hi'
  obtain rfl := Option.some.inj hi'
  rw [← hs] at h1 h3
  unfold room at hroom
  have hn : lx.length + l.length ≤ 140737488351232 := Nat.le_trans (Nat.le_mul_of_pos_right _ (Nat.pos_of_ne_zero hby)) hroom
  have hrun := run_append_grow_src (P := E.P) w t tx rt c i z (under_sl ok ht) hi hiz a' lx.length cap olds h1.cellsD y l.length news h3 hcap (by omega)
    (growslice_fits hcap (by rw [hb]; omega))
  have l1 := h2.length ok.toEnvOk
  have l2 := h4.length ok.toEnvOk
  rw [sizes_enc ok.toEnvOk] at l1 l2
  have hC : lx.length + l.length ≤ grownCap w (lx.length + l.length) cap c := Nat.le_add_right _ _
  refine ⟨_, _, olds ++ news, hrun, ?_, by simp, by rw [List.map_append]; exact RC.append h2 h4, ?_, ?_, hC⟩
  · exact (Fr.drew _ w).trans (Fr.alloc _ w.drew _)
  · have := rangeAt_alloc w.drew ((olds ++ news).toArray ++ Builtin.zeroCells z.cells (grownCap w (lx.length + l.length) cap c - (lx.length + l.length))) c
    have h8 : ((olds ++ news).toArray ++ Builtin.zeroCells z.cells (grownCap w (lx.length + l.length) cap c - (lx.length + l.length))).toList = (olds ++ news) ++ (Builtin.zeroCells z.cells (grownCap w (lx.length + l.length) cap c - (lx.length + l.length))).toList := by simp
    rw [h8] at this
    have := rangeAt_sub this 0 (olds ++ news).length
    rw [List.drop_zero, List.take_left] at this
    exact this
  · have := there_alloc w.drew ((olds ++ news).toArray ++ Builtin.zeroCells z.cells (grownCap w (lx.length + l.length) cap c - (lx.length + l.length))) c
    have e : ((olds ++ news).toArray ++ Builtin.zeroCells z.cells (grownCap w (lx.length + l.length) cap c - (lx.length + l.length))).size = grownCap w (lx.length + l.length) cap c * E.sz c := by
      simp only [Array.size_append, List.size_toArray, List.length_append, zeroCells_size, hzs, l1, l2]
      rw [← Nat.add_mul, ← Nat.add_mul]
      congr 1
      omega
    rw [e] at this
    simpa using this

/-- room for what comes -/
theorem append_room_ok (ok : EnvOk2 E) {t tx c : TypeId} (ht : E.ty t = .sl c) (hne : E.ty c ≠ .no) {rt : TypeId} {B off : Nat} {cap : Nat} {y : Value} {lx l : List (U c)} {olds : List Value} (hx : RC E w St ι (lx.map (E.enc c)) olds []) (hr : w.rangeAt B off olds) (hT : w.there B off (cap * E.sz c)) (hy : SrcOk E w St ι c tx y l)
    (hcap : lx.length + l.length ≤ cap) :
    ∃ news, (Builtin.append_ #[t, tx] rt #[.slice (some ⟨B, off, .none⟩) lx.length cap, y]).run E.P w = .ok (.slice (some ⟨B, off, .none⟩) (lx.length + l.length) cap) (w.setCells B (off + lx.length * E.sz c) news) ∧
      RC E w St ι ((lx ++ l).map (E.enc c)) (olds ++ news) [] ∧ (w.setCells B (off + lx.length * E.sz c) news).rangeAt B off (olds ++ news) := by
  obtain ⟨news, h3, h4⟩ := hy.src
  obtain ⟨i, hi, hs, hb⟩ := ok.info c hne
  have l1 := hx.length ok.toEnvOk
  have l2 := h4.length ok.toEnvOk
  rw [sizes_enc ok.toEnvOk] at l1 l2
  have hle : lx.length * E.sz c + l.length * E.sz c ≤ cap * E.sz c := by rw [← Nat.add_mul]; exact Nat.mul_le_mul_right _ hcap
  have hsome : ∀ j, j < news.length → (w.cell? ⟨B, off + lx.length * E.sz c + j, .none⟩).isSome = true ∧ w.frozen? ⟨B, off + lx.length * E.sz c + j, .none⟩ = false := by
    intro j hj
    have := hT (lx.length * E.sz c + j) (by omega)
    rwa [show off + lx.length * E.sz c + j = off + (lx.length * E.sz c + j) by omega]
  have hrun := run_append_room_src (P := E.P) w t tx rt c i (under_sl ok ht) hi B off lx.length cap y l.length news (by rw [hs]; exact h3) hcap (by rw [hs]; exact fun j hj => (hsome j hj).1) (by rw [hs]; exact fun j hj => (hsome j hj).2)
  rw [hs] at hrun
  refine ⟨news, hrun, by rw [List.map_append]; exact RC.append hx h4, ?_⟩
  intro j v hj
  by_cases h1 : j < olds.length
  · rw [List.getElem?_append_left h1] at hj
    rw [World.cell?_setCells_out _ _ _ _ _ (fun _ _ => .inl (by simp; omega))]
    exact hr j v hj
  · rw [List.getElem?_append_right (by omega)] at hj
    have hlt : j - olds.length < news.length := by
      rcases Nat.lt_or_ge (j - olds.length) news.length with h | h
      · exact h
      · rw [List.getElem?_eq_none h] at hj; simp at hj
    have := World.cell?_setCells_in B news (off + lx.length * E.sz c) w (fun j hj => (hsome j hj).1) (j - olds.length) hlt
    rw [show off + lx.length * E.sz c + (j - olds.length) = off + j by omega] at this
    rw [this, ← hj, List.getElem?_eq_getElem hlt]

theorem append_op {c : Call} (hc : c.callee = .builtin .append) (ho : o.op = .call c) {t tx : TypeId} {x y : Operand} (ha : c.args.toList = [x, y]) (hat : c.argTypes.toList = [t, tx]) {v : Value} {w' : World}
    (hr : (Builtin.append_ #[t, tx] o.type #[a.eval x, a.eval y]).run E.P w = .ok v w') : (execOp a.eval o).run E.P w = .ok (.value v) w' := by
  have h1 : c.args = #[x, y] := Array.ext' (by simpa using ha)
  have h2 : c.argTypes = #[t, tx] := Array.ext' (by simpa using hat)
  simp only [execOp, ho, resolve, hc, Sem.run_bind, Sem.run_pure, Result.andThen_ok, invoke, builtin, h1, h2]
  simp [hr]

/-- a list of one's own, longer: in a new row -/
theorem Ops.grown (ok : EnvOk2 E) (R : Rel E s N a.tmps w ι St) (hb : ι b = none) (hd : isLive (s.h b) = false) {t tx c : TypeId} {x y : Operand} {cl : Call} (hc : cl.callee = .builtin .append) (ho : o.op = .call cl) (ha : cl.args.toList = [x, y]) (hat : cl.argTypes.toList = [t, tx])
    (ht : E.ty t = .sl c) (hne : E.ty c ≠ .no) (hby : E.by' c ≠ 0) {a' : Option Addr} {cap : Nat} {lx l : List (U c)} (hxv : a.eval x = .slice a' lx.length cap) (hx : SrcOk E w St ι c t (.slice a' lx.length cap) lx) (hy : SrcOk E w St ι c tx (a.eval y) l)
    (hcap : cap < lx.length + l.length) (hroom : room (lx.length + l.length) (E.by' c)) : Ops E s N a w ι St b o [(b, .lst c (lx ++ l))] (.own b) := by
  obtain ⟨C, w', ds, h1, h2, h3, h4, h5, h6, h7⟩ := append_grow_ok (rt := o.type) ok ht hne hby hx hy hcap hroom
  have e := fresh_ext (v := some (.slice (some ⟨w.heap.size, 0, .none⟩) (lx.length + l.length) C)) hb h2 R.stb
  refine Ops.fresh R hb hd (u := .slice (some ⟨w.heap.size, 0, .none⟩) (lx.length + l.length) C) (x := .slice (some ⟨w.heap.size, 0, .none⟩) (lx.length + l.length) C) (append_op hc ho ha hat (by rw [hxv]; exact h1)) h2
    (.inr ⟨w.heap.size, blk_pos (by omega), Nat.le_refl _⟩) ?_ ?_
  · exact RO.lst_of (by omega) (by simp) (h4.ext e) h5 h6 (by simpa using h7) (by omega)
  · exact RT.of_rv (.mk1 (.own (upd_same _ _ _) .nil) rfl rfl)

/-- a list of one's own, longer: in its own row -/
theorem Ops.longer (ok : EnvOk2 E) (R : Rel E s N a.tmps w ι St) (hb : ι b = none) (hd : isLive (s.h b) = false) {t tx c : TypeId} {x y : Operand} {cl : Call} (hc : cl.callee = .builtin .append) (ho : o.op = .call cl) (ha : cl.args.toList = [x, y]) (hat : cl.argTypes.toList = [t, tx])
    (ht : E.ty t = .sl c) (hne : E.ty c ≠ .no) {m B off cap : Nat} {lx l : List (U c)} {olds : List Value} (hcap0 : 0 < cap) (hl : isLive (s.h m) = true) (hB : blkO (ι m) = some B) (hsz : B < w.heap.size) (hbm : b ≠ m) (hxv : a.eval x = .slice (some ⟨B, off, .none⟩) lx.length cap) (hx : RC E w St ι (lx.map (E.enc c)) olds []) (hr : w.rangeAt B off olds) (hT : w.there B off (cap * E.sz c))
    (hy : SrcOk E w St ι c tx (a.eval y) l) (hcap : lx.length + l.length ≤ cap) : Ops E s N a w ι St b o [(m, .dead), (b, .lst c (lx ++ l))] (.own b) := by
  obtain ⟨news, h1, h2, h3⟩ := append_room_ok (rt := o.type) ok ht hne hx hr hT hy hcap
  have hSt : ¬ An St B := R.apt m B hl hB
  generalize hw' : w.setCells B (off + lx.length * E.sz c) news = w' at h1 h3
  have hsame : ∀ B', B' ≠ B → w'.heap[B']? = w.heap[B']? := fun B' h => by rw [← hw']; exact heap_setCells B _ _ w B' h
  have hsz' : w'.heap.size = w.heap.size := by rw [← hw', size_setCells]
  have hx1 : Ext w St ι w' St ι := ⟨fun _ _ h => h, fun _ _ h => h, fun b hb => hsame b fun e => hSt (e ▸ hb), by omega⟩
  have hfree : ∀ k, isLive (({ s with h := upd s.h m .dead } : S U).h k) = true → blkO (ι k) ≠ some B := by
    intro k hk hk2
    by_cases e : k = m
    · subst e; change isLive (upd s.h k .dead k) = true at hk; rw [upd_same] at hk; simp [isLive] at hk
    · change isLive (upd s.h m .dead k) = true at hk; rw [upd_ne _ _ e] at hk
      exact e (R.dis k m B hk hl hk2 hB)
  have R1 := (R.kill m).world (w' := w') (by omega) (fun B' hB' => hsame B' fun e => hSt (e ▸ hB')) (fun k B' hk hB' => hsame B' fun e => hfree k hk (e ▸ hB'))
  have e1 : Ext w' St ι w' St (upd ι b (some (.slice (some ⟨B, off, .none⟩) (lx.length + l.length) cap))) := ⟨fun _ _ h => h, fun n u h => by
    by_cases e : n = b
    · subst e; rw [hb] at h; simp at h
    · rw [upd_ne _ _ e]; exact h, fun _ _ => rfl, Nat.le_refl _⟩
  have R2 := R1.adopt b (.lst c (lx ++ l)) (.slice (some ⟨B, off, .none⟩) (lx.length + l.length) cap) (by
      show isLive (upd s.h m .dead b) = false
      rw [upd_ne _ _ hbm]; exact hd) (.inl hb)
    (RO.lst_of (ds := olds ++ news) hcap0 (by simp) ((h2.ext hx1).ext e1) h3 (by rw [← hw']; exact there_setCells hT) (by simpa using hcap) (by omega))
    (fun B' _ hB' => by
      obtain rfl := (blk_inv hB').1
      exact ⟨hSt, hfree⟩)
  refine ⟨_, _, w', _, St, append_op hc ho ha hat (by rw [hxv]; exact h1), .inl rfl, R2, RT.of_rv (.mk1 (.own (upd_same _ _ _) .nil) rfl rfl), ?_, ?_, ?_, ?_, fun _ _ h => .inl h⟩
  · rw [← hw']; exact Fr.setCells w B _ _ ⟨m, hl, hB⟩
  · intro n v h
    exact e1.nm n v h
  · intro n h
    by_cases e : n = b
    · exact .inr ⟨by omega, by omega⟩
    · rw [upd_ne _ _ e] at h; exact .inl h
  · rintro B' ⟨n, h1, h2⟩
    by_cases e : n = b
    · subst e
      rw [upd_same] at h2
      simp only [blkO, Option.bind_some] at h2
      obtain rfl := (blk_inv h2).1
      exact .inl ⟨m, hl, hB⟩
    · rw [upd_ne _ _ e] at h2
      have : isLive (upd (upd s.h m .dead) b (.lst c (lx ++ l)) n) = true := h1
      rw [upd_ne _ _ e] at this
      by_cases e2 : n = m
      · subst e2; rw [upd_same] at this; simp [isLive] at this
      · rw [upd_ne _ _ e2] at this; exact .inl ⟨n, this, h2⟩
end
end Go.V
