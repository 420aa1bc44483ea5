/- V, ninth part: lists that are changed no more; what is built of parts. -/
import Derived.Test.YtnpdhpbhkdejoaaDoorVOps4
set_option linter.unusedVariables false
set_option linter.unusedSimpArgs false
namespace Go.V
variable {U : Nat → Type}
section
variable {E : Env U} {w : World} {St : Bool → Nat → Prop} {ι : Nat → Option Value} {s : S U} {N : Nat} {a : Act} {b : Nat} {o : Oper}

/-- some lists have become such as are changed no more -/
def Frz (h h' : Nat → AObj U) : Prop := ∀ n, h' n = h n ∨ ∃ c l, h n = .lst c l ∧ h' n = .fz c l
theorem Frz.refl (h : Nat → AObj U) : Frz h h := fun _ => .inl rfl

theorem Frz.live {h h' : Nat → AObj U} (f : Frz h h') {n : Nat} (hl : isLive (h' n) = true) : isLive (h n) = true := by
  rcases f n with e | ⟨c, l, -, e⟩
  · rw [← e]; exact hl
  · rw [e] at hl; simp [isLive] at hl

theorem upds_append {α : Type} (f : Nat → α) (l m : List (Nat × α)) : upds f (l ++ m) = upds (upds f l) m := by
  induction l generalizing f with
  | nil => rfl
  | cons x l ih => obtain ⟨n, y⟩ := x; simp only [List.cons_append, upds, ih]

theorem Ext.stable (B : Nat) : Ext w St ι w (fun g b => St g b ∨ b = B) ι := ⟨fun _ _ h => .inl h, fun _ _ h => h, fun _ _ => rfl, Nat.le_refl _⟩
theorem Ext.trans {w' w'' : World} {St' St'' : Bool → Nat → Prop} {ι' ι'' : Nat → Option Value} (x : Ext w St ι w' St' ι') (y : Ext w' St' ι' w'' St'' ι'') : Ext w St ι w'' St'' ι'' :=
  ⟨fun g b h => y.st g b (x.st g b h), fun n v h => y.nm n v (x.nm n v h), fun b h => (y.hp b (h.elim fun g h => ⟨g, x.st g b h⟩)).trans (x.hp b h), Nat.le_trans x.sz y.sz⟩

theorem RC.own_inv {m : Nat} {cs : List Value} {bs : List Nat} (h : RC E w St ι [.own m] cs bs) : ∃ v, cs = [v] ∧ ι m = some v := by
  cases h with
  | own h1 h2 => cases h2; exact ⟨_, rfl, h1⟩

/-- one list is changed no more -/
theorem Rel.freeze {tm : Array Value} (R : Rel E s N tm w ι St) {m c : Nat} {l : List (U c)} (hm : s.h m = .lst c l) :
    ∃ St', Ext w St ι w St' ι ∧ (∀ g B, St' g B → St g B ∨ Own s ι B) ∧ Rel E { s with h := upd s.h m (.fz c l) } N tm w ι St' ∧ (∀ v, ι m = some v → RC E w St' ι [.ro false c l] [v] []) ∧ (∀ B, blkO (ι m) = some B → ∀ g, St' g B) := by
  have h0 := R.obj m
  rw [hm] at h0
  have hl : isLive (s.h m) = true := by rw [hm]; rfl
  rcases h0 with ⟨⟨a0, h1⟩, h2⟩ | ⟨B, off, cap, ds, h1, h2, h3, h4, h5, h6⟩
  · subst h2
    have hc : RC E w St ι [.ro false c []] [.slice a0 0 0] [] := .roE .nil
    have R1 := (R.kill m).adopt m (.fz c []) (.slice a0 0 0) (by show isLive (upd s.h m .dead m) = false; rw [upd_same]; rfl) (.inr h1)
      ⟨_, rfl, by rw [← h1, upd_self]; exact hc⟩ (fun B h => by simp [isLive] at h)
    have e : upd (upd s.h m .dead) m (.fz c []) = upd s.h m (.fz c []) := upd_upd _ _ _ _
    rw [← h1, upd_self] at R1
    simp only [] at R1
    rw [e] at R1
    refine ⟨St, Ext.refl, fun _ _ h => .inl h, R1, fun v hv => ?_, fun B hB => by rw [h1] at hB; simp [blkO, blk, base_zero] at hB⟩
    rw [h1] at hv
    simp only [Option.some.injEq] at hv
    subst hv
    exact hc
  · have x : Ext w St ι w (fun g b => St g b ∨ b = B) ι := Ext.stable B
    have hB : blkO (ι m) = some B := by rw [h1]; rfl
    have R0 := (R.kill m).stable B h6 (fun k hk hk2 => by
      by_cases e : k = m
      · subst e; change isLive (upd s.h k .dead k) = true at hk; rw [upd_same] at hk; simp [isLive] at hk
      · change isLive (upd s.h m .dead k) = true at hk; rw [upd_ne _ _ e] at hk
        exact e (R.dis k m B hk hl hk2 hB))
    have hc : RC E w (fun g b => St g b ∨ b = B) ι [.ro false c l] [.slice (some ⟨B, off, .none⟩) l.length (cap + 1)] [] := .ro (h2.ext x) h3 (.inr rfl) h5 .nil
    have R1 := R0.adopt m (.fz c l) (.slice (some ⟨B, off, .none⟩) l.length (cap + 1)) (by show isLive (upd s.h m .dead m) = false; rw [upd_same]; rfl) (.inr h1)
      ⟨_, rfl, by rw [← h1, upd_self]; exact hc⟩ (fun B h => by simp [isLive] at h)
    have e : upd (upd s.h m .dead) m (.fz c l) = upd s.h m (.fz c l) := upd_upd _ _ _ _
    rw [← h1, upd_self] at R1
    simp only [] at R1
    rw [e] at R1
    refine ⟨_, x, fun g B' (h : St g B' ∨ B' = B) => h.imp id fun e => ⟨m, hl, by rw [e]; exact hB⟩, R1, fun v hv => ?_, fun B' hB' g => by rw [hB] at hB'; obtain rfl := Option.some.inj hB'; exact .inr rfl⟩
    rw [h1] at hv
    simp only [Option.some.injEq] at hv
    subst hv
    exact hc

mutual
theorem frz_ok (ok : EnvOk2 E) {tm : Array Value} : ∀ (q : A U) {h' : Nat → AObj U} {St : Bool → Nat → Prop} {cs : List Value}, Frz s.h h' → Rel E { s with h := h' } N tm w ι St → RC E w St ι [q] cs [] → hole (frz s.h q) = false →
    ∃ St', Ext w St ι w St' ι ∧ (∀ g B, St' g B → St g B ∨ Own s ι B) ∧ Rel E { s with h := upds h' (frzN s.h q) } N tm w ι St' ∧ Frz s.h (upds h' (frzN s.h q)) ∧ RC E w St' ι [frz s.h q] cs []
  | .agg l, h', St, cs, hf, R, hc, hh => by
    obtain ⟨St', x, g', R', f', c'⟩ := frzs_ok ok l hf R hc.agg_inv (by simpa [frz, hole] using hh)
    exact ⟨St', x, g', R', f', by simp only [frz]; simpa using RC.agg c' .nil⟩
  | .own m, h', St, cs, hf, R, hc, hh => by
    cases hm : s.h m with
    | lst c l =>
      simp only [frz, frzN, hm, upds]
      have hv := hc.own_inv
      obtain ⟨v, rfl, hv⟩ := hv
      rcases hf m with h1 | ⟨c', l', h1, h2⟩
      · obtain ⟨St', x, g', R', q, -⟩ := R.freeze (m := m) (c := c) (l := l) (by show h' m = _; rw [h1, hm])
        refine ⟨St', x, fun g B h => (g' g B h).imp id fun ⟨n, h1, h2⟩ => ⟨n, hf.live h1, h2⟩, R', fun n => ?_, q v hv⟩
        by_cases e : n = m
        · subst e; exact .inr ⟨c, l, hm, by rw [upd_same]⟩
        · rw [upd_ne _ _ e]; exact hf n
      · rw [hm] at h1
        obtain ⟨rfl, h1⟩ := AObj.lst.inj h1
        obtain rfl := eq_of_heq h1
        have e : upd h' m (.fz c l) = h' := by rw [← h2, upd_self]
        rw [e]
        have h0 := R.obj m
        simp only [h2] at h0
        obtain ⟨v', e1, e2⟩ := h0
        rw [hv] at e1
        simp only [Option.some.injEq] at e1
        subst e1
        exact ⟨St, Ext.refl, fun _ _ h => .inl h, R, hf, e2⟩
    | fz c l =>
      simp only [frz, frzN, hm, upds]
      have hv := hc.own_inv
      obtain ⟨v, rfl, hv⟩ := hv
      have h2 : h' m = .fz c l := by
        rcases hf m with h1 | ⟨c', l', h1, -⟩
        · rw [h1, hm]
        · rw [hm] at h1; simp at h1
      have e : upd h' m (.fz c l) = h' := by rw [← h2, upd_self]
      rw [e]
      have h0 := R.obj m
      simp only [h2] at h0
      obtain ⟨v', e1, e2⟩ := h0
      rw [hv] at e1
      simp only [Option.some.injEq] at e1
      subst e1
      exact ⟨St, Ext.refl, fun _ _ h => .inl h, R, hf, e2⟩
    | dead => simp [frz, hm, hole] at hh
    | box q => simp [frz, hm, hole] at hh
    | lp lf lid live vals j => simp [frz, hm, hole] at hh
  | .nils c, h', St, cs, hf, R, hc, hh => by
    cases hc; rename_i hn; cases hn
    exact ⟨St, Ext.refl, fun _ _ h => .inl h, R, hf, .roE .nil⟩
  | .clip false c l, h', St, cs, hf, R, hc, hh => by
    refine ⟨St, Ext.refl, fun _ _ h => .inl h, R, hf, ?_⟩
    cases hc with
    | clipE hn => cases hn; exact .roE .nil
    | clip q1 q2 q3 hn => cases hn; exact .ro q1 q2 q3 (Nat.le_refl _) .nil
  | .clip true c l, h', St, cs, hf, R, hc, hh => ⟨St, Ext.refl, fun _ _ h => .inl h, R, hf, hc⟩
  | .none, h', St, cs, hf, R, hc, hh => ⟨St, Ext.refl, fun _ _ h => .inl h, R, hf, hc⟩
  | .int .., h', St, cs, hf, R, hc, hh => ⟨St, Ext.refl, fun _ _ h => .inl h, R, hf, hc⟩
  | .bool .., h', St, cs, hf, R, hc, hh => ⟨St, Ext.refl, fun _ _ h => .inl h, R, hf, hc⟩
  | .str .., h', St, cs, hf, R, hc, hh => ⟨St, Ext.refl, fun _ _ h => .inl h, R, hf, hc⟩
  | .nilp, h', St, cs, hf, R, hc, hh => ⟨St, Ext.refl, fun _ _ h => .inl h, R, hf, hc⟩
  | .nilf, h', St, cs, hf, R, hc, hh => ⟨St, Ext.refl, fun _ _ h => .inl h, R, hf, hc⟩
  | .arr .., h', St, cs, hf, R, hc, hh => ⟨St, Ext.refl, fun _ _ h => .inl h, R, hf, hc⟩
  | .ro .., h', St, cs, hf, R, hc, hh => ⟨St, Ext.refl, fun _ _ h => .inl h, R, hf, hc⟩
  | .usl .., h', St, cs, hf, R, hc, hh => ⟨St, Ext.refl, fun _ _ h => .inl h, R, hf, hc⟩
  | .sub .., h', St, cs, hf, R, hc, hh => ⟨St, Ext.refl, fun _ _ h => .inl h, R, hf, hc⟩
  | .bsl .., h', St, cs, hf, R, hc, hh => ⟨St, Ext.refl, fun _ _ h => .inl h, R, hf, hc⟩
  | .ptr .., h', St, cs, hf, R, hc, hh => ⟨St, Ext.refl, fun _ _ h => .inl h, R, hf, hc⟩
  | .yld .., h', St, cs, hf, R, hc, hh => ⟨St, Ext.refl, fun _ _ h => .inl h, R, hf, hc⟩
  | .rp .., h', St, cs, hf, R, hc, hh => ⟨St, Ext.refl, fun _ _ h => .inl h, R, hf, hc⟩
  | .clo .., h', St, cs, hf, R, hc, hh => ⟨St, Ext.refl, fun _ _ h => .inl h, R, hf, hc⟩
  | .tup .., h', St, cs, hf, R, hc, hh => ⟨St, Ext.refl, fun _ _ h => .inl h, R, hf, hc⟩
theorem frzs_ok (ok : EnvOk2 E) {tm : Array Value} : ∀ (l : List (A U)) {h' : Nat → AObj U} {St : Bool → Nat → Prop} {cs : List Value}, Frz s.h h' → Rel E { s with h := h' } N tm w ι St → RC E w St ι l cs [] → holes (frzs s.h l) = false →
    ∃ St', Ext w St ι w St' ι ∧ (∀ g B, St' g B → St g B ∨ Own s ι B) ∧ Rel E { s with h := upds h' (frzNs s.h l) } N tm w ι St' ∧ Frz s.h (upds h' (frzNs s.h l)) ∧ RC E w St' ι (frzs s.h l) cs []
  | [], h', St, cs, hf, R, hc, hh => ⟨St, Ext.refl, fun _ _ h => .inl h, R, hf, hc⟩
  | q :: l, h', St, cs, hf, R, hc, hh => by
    obtain ⟨c1, c2, b1, b2, rfl, hb, h1, h2⟩ := RC.cons_inv hc
    obtain ⟨rfl, rfl⟩ := nil_or hb
    simp only [frzs, holes, Bool.or_eq_false_iff] at hh
    obtain ⟨St1, x1, g1, R1, f1, d1⟩ := frz_ok ok q hf R h1 hh.1
    obtain ⟨St2, x2, g2, R2, f2, d2⟩ := frzs_ok ok l f1 R1 (h2.ext x1) hh.2
    refine ⟨St2, x1.trans x2, fun g B h => (g2 g B h).elim (g1 g B) .inr, ?_, ?_, ?_⟩
    · simp only [frzNs, upds_append]; exact R2
    · simp only [frzNs, upds_append]; exact f2
    · simp only [frzs]; simpa using RC.cons (d1.ext x2) d2
end

theorem Ops.after {s1 : S U} {wr1 wr2 : List (Nat × AObj U)} {v : A U} {St1 : Bool → Nat → Prop} (hs : s1 = { s with h := upds s.h wr1 }) (f : Frz s.h s1.h) (hg : ∀ g B, St1 g B → St g B ∨ Own s ι B) (h : Ops E s1 N a w ι St1 b o wr2 v) : Ops E s N a w ι St b o (wr1 ++ wr2) v := by
  obtain ⟨nx, u, w', ι', St', q⟩ := h
  have hO : ∀ B, Own s1 ι B → Own s ι B := fun B ⟨n, h1, h2⟩ => ⟨n, f.live h1, h2⟩
  subst hs
  refine ⟨nx, u, w', ι', St', q.run, q.nxt, by rw [upds_append]; exact q.rel, q.val, q.fr.mono fun B _ h => hO B h, q.nm, q.new, fun B hB => ?_, fun g B h => (q.gr g B h).elim (hg g B) fun h => .inr (hO B h)⟩
  rw [upds_append] at hB
  exact (q.own B hB).imp (hO B) id

theorem zero_row (z : Array Value) (n : Nat) : ((Array.range (n * z.size)).map (z[· % z.size]!)).toList = (List.replicate n z.toList).flatten := by
  induction n with
  | zero => simp
  | succ n ih =>
    rw [List.replicate_succ', List.flatten_append, ← ih]
    simp only [Array.toList_map, Array.toList_range, Nat.add_mul, Nat.one_mul, List.range_add, List.map_append, List.map_map]
    congr 1
    simp only [List.flatten_cons, List.flatten_nil, List.append_nil]
    apply List.ext_getElem
    · simp
    · intro i h1 h2
      simp only [List.length_map, List.length_range] at h1
      simp [Nat.add_mod, Nat.mod_eq_of_lt h1, getElem!_pos, h1]

theorem RC.zeros (ok : EnvOk2 E) {c : Nat} {z : Array Value} (h : RC E w St ι [E.enc c (E.dflt c)] z.toList []) (n : Nat) : RC E w St ι ((List.replicate n (E.dflt c)).map (E.enc c)) ((Array.range (n * z.size)).map (z[· % z.size]!)).toList [] := by
  rw [zero_row]
  induction n with
  | zero => exact .nil
  | succ n ih => simp only [List.replicate_succ, List.map_cons, List.flatten_cons]; simpa using RC.cons h ih

theorem decs_enc (ok : EnvOk E) (c : Nat) : ∀ (l : List (A U)) (xs : List (U c)), decs E c l = some xs → l = xs.map (E.enc c)
  | [], xs, h => by simp only [decs, Option.some.injEq] at h; subst h; rfl
  | q :: l, xs, h => by
    simp only [decs] at h
    cases h1 : E.dec c q with
    | none => rw [h1] at h; simp at h
    | some x =>
      cases h2 : decs E c l with
      | none => rw [h1, h2] at h; simp at h
      | some r =>
        rw [h1, h2] at h
        simp only [Option.some.injEq] at h
        subst h
        simp [ok.decEnc c q x h1, decs_enc ok c l r h2]

theorem setParts_known : ∀ (ps : List (Nat × A U)) (l l' : List (A U)), setParts E l ps = some l' → (∀ p ∈ ps, known p.2 = true) ∧ l'.length = l.length
  | [], l, l', h => by simp only [setParts, Option.some.injEq] at h; subst h; exact ⟨by simp, rfl⟩
  | (k, x) :: ps, l, l', h => by
    simp only [setParts] at h
    cases hb : (Nat.blt k l.length && (Nat.beq (size E.sz (nth l k)) (size E.sz x) && (known x && (Go.V.isAgg (nth l k) == Go.V.isAgg x)))) with
    | false => rw [hb] at h; simp at h
    | true =>
      rw [hb] at h
      simp only [cond_true] at h
      simp only [Bool.and_eq_true] at hb
      obtain ⟨h1, h2⟩ := setParts_known ps _ _ h
      exact ⟨fun p hp => by rcases List.mem_cons.1 hp with rfl | hp; exact hb.2.2.1; exact h1 p hp, by rw [h2]; simp⟩

theorem frz_known (h : Nat → AObj U) (q : A U) (hk : known (frz h q) = true) : known q = true := by
  cases q with
  | none => simp [frz, known] at hk
  | tup l => simp [frz, known] at hk
  | usl c l => simp [frz, known] at hk
  | _ => rfl

/-- values to be laid into a row for good -/
theorem frz_vals (ok : EnvOk2 E) (R : Rel E s N a.tmps w ι St) (t : TypeId) (ps : List (Nat × Operand)) (l l' : List (A U))
    (hs : setParts E l ((ps.map (·.1)).zip (frzs s.h (ps.map fun p => s.ev E t p.2))) = some l') (hh : holes (frzs s.h (ps.map fun p => s.ev E t p.2)) = false) :
    ∃ St', Ext w St ι w St' ι ∧ (∀ g B, St' g B → St g B ∨ Own s ι B) ∧ Rel E { s with h := upds s.h (frzNs s.h (ps.map fun p => s.ev E t p.2)) } N a.tmps w ι St' ∧ Frz s.h (upds s.h (frzNs s.h (ps.map fun p => s.ev E t p.2))) ∧
      ∀ (i k : Nat) (x : A U) (k' : Nat) (v : Value), ((ps.map (·.1)).zip (frzs s.h (ps.map fun p => s.ev E t p.2)))[i]? = some (k, x) → (ps.map fun p => (p.1, a.eval p.2))[i]? = some (k', v) → k' = k ∧ RT E w St' ι x v := by
  -- the values, one behind the other
  have len_frzs : ∀ m : List (A U), (frzs s.h m).length = m.length := by intro m; induction m with | nil => rfl | cons q m ih => simp [frzs, ih]
  have hk := (setParts_known _ _ _ hs).1
  have key : ∀ (qs : List (Nat × Operand)) (h' : Nat → AObj U) (St : Bool → Nat → Prop), Frz s.h h' → Rel E { s with h := h' } N a.tmps w ι St → (∀ d, RT E w St ι (s.t d) (a.tmps.getD d undef)) →
      (∀ p ∈ (qs.map (·.1)).zip (frzs s.h (qs.map fun p => s.ev E t p.2)), known p.2 = true) → holes (frzs s.h (qs.map fun p => s.ev E t p.2)) = false →
      ∃ St', Ext w St ι w St' ι ∧ (∀ g B, St' g B → St g B ∨ Own s ι B) ∧ Rel E { s with h := upds h' (frzNs s.h (qs.map fun p => s.ev E t p.2)) } N a.tmps w ι St' ∧ Frz s.h (upds h' (frzNs s.h (qs.map fun p => s.ev E t p.2))) ∧
        ∀ (i k : Nat) (x : A U) (k' : Nat) (v : Value), ((qs.map (·.1)).zip (frzs s.h (qs.map fun p => s.ev E t p.2)))[i]? = some (k, x) → (qs.map fun p => (p.1, a.eval p.2))[i]? = some (k', v) → k' = k ∧ RT E w St' ι x v := by
    intro qs
    induction qs with
    | nil => intro h' St f R _ _ _; exact ⟨St, Ext.refl, fun _ _ h => .inl h, R, f, by simp⟩
    | cons q qs ih =>
      intro h' St f R ht hkn hh
      simp only [List.map_cons, frzs, holes, Bool.or_eq_false_iff] at hh
      have hk0 : known (frz s.h (s.ev E t q.2)) = true := hkn (q.1, frz s.h (s.ev E t q.2)) (by simp [frzs])
      have hev : RT E w St ι (s.ev E t q.2) (a.eval q.2) := by
        cases hq : q.2 with
        | tmp d => exact ht d
        | const v => exact const_ok ok t v
        | func g => exact .mk1 (.clo (vs := #[]) .nil rfl .nil) rfl rfl
        | global g => exact (R.sup.glo g).ext ⟨fun _ _ h => h, fun _ _ h => by simp at h, fun _ _ => rfl, Nat.le_refl _⟩
      have hrv := hev.rv (frz_known _ _ hk0)
      obtain ⟨St1, x1, g1, R1, f1, d1⟩ := frz_ok ok (s.ev E t q.2) f R hrv.1 hh.1
      obtain ⟨St2, x2, g2, R2, f2, d2⟩ := ih _ St1 f1 R1 (fun d => (ht d).ext x1) (fun p hp => hkn p (by simp only [List.map_cons, frzs, List.zip_cons_cons]; exact List.mem_cons_of_mem _ hp)) hh.2
      refine ⟨St2, x1.trans x2, fun g B h => (g2 g B h).elim (g1 g B) .inr, ?_, ?_, ?_⟩
      · simp only [List.map_cons, frzNs, upds_append]; exact R2
      · simp only [List.map_cons, frzNs, upds_append]; exact f2
      · intro i k x k' v h1 h2
        cases i with
        | zero =>
          simp only [List.map_cons, frzs, List.zip_cons_cons, List.getElem?_cons_zero, Option.some.injEq, Prod.mk.injEq] at h1 h2
          obtain ⟨rfl, rfl⟩ := h1
          obtain ⟨rfl, rfl⟩ := h2
          refine ⟨rfl, RT.of_rv ⟨d1.ext x2, ?_⟩⟩
          rw [hrv.2]
          cases hq : s.ev E t q.2 with
          | clip g c l => cases g <;> rfl
          | own m => simp only [frz]; cases hm : s.h m <;> rfl
          | _ => rfl
        | succ i =>
          simp only [List.map_cons, frzs, List.zip_cons_cons, List.getElem?_cons_succ] at h1 h2
          exact d2 i k x k' v h1 h2
  exact key ps s.h St (Frz.refl _) R R.tmp hk hh

theorem op_buildSlice (ok : EnvOk2 E) (R : Rel E s N a.tmps w ι St) (hb : ι b = none) (hd : isLive (s.h b) = false) (t e : TypeId) (n : Nat) (ps : Array (Nat × Operand)) (ho : o.op = .buildSlice t n ps) (ht : E.ty t = .sl e)
    {l : List (A U)} {xs : List (U e)} (hs : setParts E ((List.replicate n (E.dflt e)).map (E.enc e)) ((ps.toList.map (·.1)).zip (frzs s.h (ps.toList.map fun p => s.ev E e p.2))) = some l) (hx : decs E e l = some xs)
    (hh : holes (frzs s.h (ps.toList.map fun p => s.ev E e p.2)) = false)
    (hz : (isNo (E.ty e) || (Nat.beq (n * E.sz e) 0 || Nat.blt 16777216 (n * E.sz e))) = false) :
    Ops E s N a w ι St b o (frzNs s.h (ps.toList.map fun p => s.ev E e p.2) ++ [(b, .lst e xs)]) (.own b) := by
  simp only [Bool.or_eq_false_iff] at hz
  obtain ⟨z1, z2, z3⟩ := hz
  have hne : E.ty e ≠ .no := fun h => by rw [h] at z1; simp [isNo] at z1
  obtain ⟨i, z, hi, hiz, hzs, hzr⟩ := ok.dfl e hne
  obtain ⟨i', hi', hsz, -⟩ := ok.info e hne
  rw [hi] at hi'
  obtain rfl := Option.some.inj hi'
  obtain ⟨St1, x1, gg, R1, f1, d1⟩ := frz_vals ok R e ps.toList _ _ hs hh
  have h0 := RC.zeros ok (hzr w St1 ι) n
  obtain ⟨cs', g1, g2, g3⟩ := fill_parts ok (fun i => some (i * E.sz e, E.sz e)) _ (ps.toList.map fun p => (p.1, a.eval p.2)) _ _ _ h0 hs (by
      have len_frzs : ∀ m : List (A U), (frzs s.h m).length = m.length := by intro m; induction m with | nil => rfl | cons q m ih => simp [frzs, ih]
      simp [len_frzs]) d1 (by
      intro k hk
      have hk' : k < n := by simpa using hk
      congr 2
      · rw [← List.map_take, sizes_enc ok.toEnvOk]; simp; rw [Nat.min_eq_left (by omega)]
      · rw [nth_eq, List.getD, List.getElem?_eq_getElem hk]; simp [ok.encSize])
  have hl := decs_enc ok.toEnvOk e l xs hx
  subst hl
  have hn : xs.length = n := by have := (setParts_known _ _ _ hs).2; simpa using this
  have hb1 : isLive (upds s.h (frzNs s.h (ps.toList.map fun p => s.ev E e p.2)) b) = false := by
    cases hq : isLive (upds s.h (frzNs s.h (ps.toList.map fun p => s.ev E e p.2)) b) with
    | false => rfl
    | true => rw [f1.live hq] at hd; simp at hd
  have hn0 : 0 < n := by
    rcases Nat.eq_zero_or_pos n with h | h
    · rw [h, Nat.zero_mul] at z2; simp at z2
    · exact h
  have hf := Fr.alloc (fun _ => False) w (.cells cs' e)
  have e1 := fresh_ext (v := some (.slice (some ⟨w.heap.size, 0, .none⟩) n n)) hb hf R1.stb
  have hsize : cs'.size = n * E.sz e := by rw [g3]; simp [hzs]
  refine Ops.after (s1 := { s with h := upds s.h (frzNs s.h (ps.toList.map fun p => s.ev E e p.2)) }) (St1 := St1) rfl f1 gg ?_
  refine Ops.fresh R1 hb hb1 (u := .slice (some ⟨w.heap.size, 0, .none⟩) n n) (x := .slice (some ⟨w.heap.size, 0, .none⟩) n n) (w' := w.alloc (.cells cs' e)) ?_ hf
    (.inr ⟨w.heap.size, blk_pos hn0, Nat.le_refl _⟩) ?_ ?_
  · have hrun := run_buildSlice (P := E.P) w t e n (ps.map fun (i, x) => (i, a.eval x)) cs' i z (under_sl ok ht) hi hiz (by rw [hsz]; intro h; rw [show (16777216 : Nat) = 2 ^ 24 from rfl] at z3; have : Nat.blt (2^24) (n * E.sz e) = true := Nat.ble_eq_true_of_le (by omega); rw [this] at z3; simp at z3)
      (by rw [hsz]; intro h; rw [h] at z2; simp at z2) (by
        rw [hsz]
        have : (ps.map fun (i, x) => (i, a.eval x)).toList = ps.toList.map fun p => (p.1, a.eval p.2) := by simp
        rw [this, ← hzs]
        rw [← hzs] at g1
        exact g1)
    simp only [execOp, ho]
    rw [Sem.run_bind, hrun]
    rfl
  · refine RO.lst_of (ds := cs'.toList) hn0 ?_ (g2.ext e1) (rangeAt_alloc _ _ _) ?_ (by omega) (by simp)
    · rw [hn]
    · rw [← hsize]; exact there_alloc _ _ _
  · exact RT.of_rv (.mk1 (.own (upd_same _ _ _) .nil) rfl rfl)
end
end Go.V
