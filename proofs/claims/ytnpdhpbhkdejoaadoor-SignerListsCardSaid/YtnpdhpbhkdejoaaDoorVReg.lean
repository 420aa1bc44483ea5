/- V: a region in the order of its text. -/
import Derived.Test.YtnpdhpbhkdejoaaDoorVLoc
import Derived.Test.YtnpdhpbhkdejoaaDoorVYield
set_option linter.unusedVariables false
set_option linter.unusedSimpArgs false
namespace Go.V
variable {U : Nat → Type}
section
variable {E : Env U} {w : World} {St : Bool → Nat → Prop} {ι : Nat → Option Value} {s : S U} {N : Nat} {a : Act} {b : Nat} {o : Oper}

/-- how a body begins: how many names it has, what they are; and blocks that have no names, and stay ('hidden') -/
abbrev Ini := Nat × (Nat → Option Value) × List (Nat × Obj)
/-- what holds on the way through a body; 'w0': the world in which it began -/
structure Inv (E : Env U) (N : Nat) (w0 : World) (St0 : Bool → Nat → Prop) (O0 : Nat → Prop) (ι0 : Ini) (s : S U) (tm : Array Value) (w : World) (ι : Nat → Option Value) (St : Bool → Nat → Prop) : Prop where
  rel : Rel E s N tm w ι St
  fr : Fr O0 w0 w
  own : ∀ B, Own s ι B → O0 B ∨ w0.heap.size ≤ B
  gr : ∀ g B, St g B → St0 g B ∨ O0 B ∨ w0.heap.size ≤ B
  old : ∀ n, n < s.nb → ι n = ι0.2.1 n
  nbx : s.nb ≤ s.nx
  nbe : s.nb = ι0.1
  hid : ∀ x ∈ ι0.2.2, w.heap[x.1]? = some x.2 ∧ ¬ Own s ι x.1 ∧ ¬ An St x.1 ∧ (O0 x.1 ∨ w0.heap.size ≤ x.1)
  hnd : (ι0.2.2.map (·.1)).Nodup

variable {ro : Option Nat}
variable {w0 : World} {St0 : Bool → Nat → Prop} {O0 : Nat → Prop} {ι0 : Ini}

theorem Inv.step (I : Inv E N w0 St0 O0 ι0 s a.tmps w ι St) (hb : s.nb ≤ b) {dst : Option Nat} {wr : List (Nat × AObj U)} {v : A U} {tm' : Array Value} {w' : World} {ι' : Nat → Option Value} {St' : Bool → Nat → Prop} (h : Stp E s N w ι St b dst wr v tm' w' ι' St') :
    Inv E N w0 St0 O0 ι0 (s.put wr dst v) tm' w' ι' St' :=
  ⟨h.rel, ⟨Nat.le_trans I.fr.size h.fr.size, fun B hB ho0 => (h.fr.same B (Nat.lt_of_lt_of_le hB I.fr.size) (fun ho => (I.own B ho).elim ho0 fun h => absurd h (by omega))).trans (I.fr.same B hB ho0), h.fr.out.trans I.fr.out, h.fr.os.trans I.fr.os, h.fr.tape.trans I.fr.tape⟩,
    fun B hB => (h.own B hB).elim (I.own B) fun h => .inr (Nat.le_trans I.fr.size h), fun g B hB => by
    rcases h.gr g B hB with h | h | h
    · exact I.gr g B h
    · exact .inr (I.own B h)
    · exact .inr (.inr (Nat.le_trans I.fr.size h)), fun n hn => by
    have hn' : n < s.nb := hn
    rw [← I.old n hn']
    cases hι : ι n with
    | some u => exact h.nm n u hι
    | none =>
      cases hι' : ι' n with
      | none => rfl
      | some u =>
        rcases h.new n (by rw [hι']; simp) with h | h
        · exact absurd hι h
        · omega, I.nbx, I.nbe, fun x hx => by
    obtain ⟨h1, h2, h3, h4⟩ := I.hid x hx
    have hlt := (Array.getElem?_eq_some_iff.1 h1).1
    refine ⟨(h.fr.same _ hlt h2).trans h1, fun ho => ?_, fun ⟨g, hg⟩ => ?_, h4⟩
    · rcases h.own _ ho with h | h
      · exact h2 h
      · omega
    · rcases h.gr g _ hg with h | h | h
      · exact h3 ⟨g, h⟩
      · exact h2 h
      · omega, I.hnd⟩

theorem rel_undef {tm : Array Value} (R : Rel E s N tm w ι St) (d : Nat) : Rel E { s with t := upd s.t d (.tup []) } N (tm.setIfInBounds d undef) w ι St := by
  refine ⟨by simp [R.tsz], fun e => ?_, R.obj, R.dis, R.stb, R.apt, R.sup⟩
  have hu : RT E w St ι (.tup []) undef := ⟨#[], rfl, trivial⟩
  show RT E w St ι (upd s.t d (.tup []) e) _
  rw [getD_put]
  by_cases h : e = d
  · subst h
    rw [upd_same]
    by_cases hs : e < tm.size
    · rw [if_pos ⟨rfl, hs⟩]; exact hu
    · rw [if_neg (fun x => hs x.2)]
      have : tm.getD e undef = undef := by rw [Array.getD_eq_getD_getElem?, Array.getElem?_eq_none (by omega)]; rfl
      rw [this]; exact hu
  · rw [upd_ne _ _ h, if_neg (fun x => h x.1.symm)]
    exact R.tmp e

theorem Inv.skip (I : Inv E N w0 St0 O0 ι0 s a.tmps w ι St) (dst : Option Nat) : Inv E N w0 St0 O0 ι0 (s.put [] dst (.tup [])) (a.put dst undef).tmps w ι St := by
  refine ⟨?_, I.fr, I.own, I.gr, I.old, I.nbx, I.nbe, I.hid, I.hnd⟩
  cases dst with
  | none => exact I.rel
  | some d => exact rel_undef I.rel d

theorem Inv.drew (I : Inv E N w0 St0 O0 ι0 s a.tmps w ι St) : Inv E N w0 St0 O0 ι0 s a.tmps { w with drawn := w.drawn + 1 } ι St :=
  ⟨I.rel.world (Nat.le_refl _) (fun _ _ => rfl) (fun _ _ _ _ => rfl), ⟨I.fr.size, I.fr.same, I.fr.out, I.fr.os, I.fr.tape⟩, I.own, I.gr, I.old, I.nbx, I.nbe, I.hid, I.hnd⟩

theorem put_same {d : Nat} {v : A U} (h : s.t d = v) : s.put [] (some d) v = s := by
  subst h
  cases s with
  | mk t h nx nb => simp only [S.put, upds, upd_self]

theorem undef_ne_bool (c : Bool) : (undef : Value) ≠ .bool c := by unfold undef; intro h; cases h

theorem Rel.bool_at {tm : Array Value} (R : Rel E s N tm w ι St) {d : Nat} {c : Bool} (h : s.t d = .bool c) : tm[d]? = some (.bool c) := by
  have h0 := R.tmp d
  rw [h] at h0
  have h1 := RV.bool_inv h0
  cases hd : tm[d]? with
  | none => rw [Array.getD_eq_getD_getElem?, hd] at h1; exact absurd h1 (undef_ne_bool c)
  | some v => rw [Array.getD_eq_getD_getElem?, hd] at h1; simpa using h1

theorem wanted_of (R : Rel E s N a.tmps w ι St) {ops : Array Oper} {j : Nat} {want : Bool} {d : Nat} {c : Bool} (hg : o.guard = some (j, want)) (hd : guardTmp ops.toList o = some d) (hs : s.t d = .bool c) :
    Region.wanted o (yielded ops a.tmps) = (c == want) := by
  unfold guardTmp at hd
  rw [hg] at hd
  simp only [Array.getElem?_toList] at hd
  unfold Region.wanted yielded
  rw [hg]
  cases hj : ops[j]? with
  | none => rw [hj] at hd; simp at hd
  | some og =>
    rw [hj] at hd
    simp only [] at hd
    simp only [hj, Option.bind_some, hd, R.bool_at hs]
    cases c <;> cases want <;> rfl

theorem wanted_no (R : Rel E s N a.tmps w ι St) {ops : Array Oper} {j : Nat} {want : Bool} {d : Nat} (hg : o.guard = some (j, want)) (hd : guardTmp ops.toList o = some d) (hs : s.t d = .tup []) :
    Region.wanted o (yielded ops a.tmps) = false := by
  have h0 := R.tmp d
  rw [hs] at h0
  obtain ⟨vs, h1, -⟩ := h0
  unfold guardTmp at hd
  rw [hg] at hd
  simp only [Array.getElem?_toList] at hd
  unfold Region.wanted yielded
  rw [hg]
  cases hj : ops[j]? with
  | none => rw [hj] at hd; simp at hd
  | some og =>
    rw [hj] at hd
    simp only [] at hd
    simp only [hj, Option.bind_some, hd]
    cases ht : a.tmps[d]? with
    | none => rfl
    | some v =>
      rw [Array.getD_eq_getD_getElem?, ht] at h1
      simp only [Option.getD_some] at h1
      subst h1
      rfl

theorem vop_step (ok : EnvOk2 E) {T : Tab U} (TS : TSound E T) (R : Rel E s N a.tmps w ι St) {i : Nat} {sV : S U} (hf : ∀ m, sV.nm i ≤ m → m < sV.nm i + 100 → ι m = none) (hd : ∀ d, o.dst = some d → d < N)
    (hp : plan E (sV.nm i) o s = plan E (sV.nm i) o sV) (hg : ∀ m ∈ lookOf (plan E (sV.nm i) o sV), sV.h m = s.h m) {K : S U → Prop} (hv : vop E T i o sV K)
    {next : Act → World → Prop} {Q : Exit → Act → World → Prop} (h : ∀ wr v u w' ι' St', K (sV.put wr o.dst v) → (∀ x ∈ wr, x.1 ∈ wrOf (plan E (sV.nm i) o sV) ∨ (sV.nm i ≤ x.1 ∧ x.1 < sV.nm i + 100)) →
      Stp E s N w ι St (sV.nm i) o.dst wr v (a.put o.dst u).tmps w' ι' St' → next (a.put o.dst u) w') : o.wpIn (FR ro) 0 E.P a w next Q := by
  unfold vop at hv
  cases hpl : plan E (sV.nm i) o sV with
  | bad => rw [hpl] at hv; exact hv.elim
  | call f args look =>
    rw [hpl] at hv
    exact call_step ok TS R hf hd (hp.trans hpl) (by rw [hpl] at hg; exact hg) hv (fun wr v u w' ι' St' hk hn hs => h wr v u w' ι' St' hk (by rw [hpl]; exact hn) hs)
  | yield n f id vals args look =>
    rw [hpl] at hv
    exact yield_step ok TS R hf hd (hp.trans hpl) (by rw [hpl] at hg; exact hg) hv (fun wr v u w' ι' St' hk hn hs => h wr v u w' ι' St' hk (by rw [hpl]; exact hn) hs)
  | any q rd neg =>
    rw [hpl] at hv
    exact any_step ok R hd (hp.trans hpl) hv (fun c u w' ι' St' hk hs => h [] _ u w' ι' St' hk (fun x hx => by cases hx) hs)
  | done pre rd wr v =>
    have hk : (∀ p, pre = some p → p) ∧ K (sV.put wr o.dst v) := by
      rw [hpl] at hv
      cases pre with
      | none => exact ⟨fun p hp => by simp at hp, hv⟩
      | some q => exact ⟨fun p hp => by obtain rfl := Option.some.inj hp; exact hv.1, hv.2⟩
    exact op_step ok R hf hd (hp.trans hpl) hk.1 (fun u w' ι' St' hs => h wr v u w' ι' St' hk.2 (by rw [hpl]; exact fun x hx => .inl (List.mem_map_of_mem hx)) hs)

theorem vops_sound (ok : EnvOk2 E) {T : Tab U} (TS : TSound E T) {ops : Array Oper} {Q : Exit → Act → World → Prop} : ∀ (l : List Oper) (i : Nat) (s : S U) (a : Act) (w : World) (ι : Nat → Option Value) (St : Bool → Nat → Prop) (K : S U → Prop),
    (∀ k o, l[k]? = some o → ops[i + k]? = some o) → (∀ o ∈ l, ∀ d, o.dst = some d → d < N) → Inv E N w0 St0 O0 ι0 s a.tmps w ι St → (∀ m, s.nm i ≤ m → ι m = none) → vops E T ops.toList (enum i l) s K →
    (∀ s' a' w' ι' St', K s' → Inv E N w0 St0 O0 ι0 s' a'.tmps w' ι' St' → (∀ m, s'.nm (i + l.length) ≤ m → ι' m = none) → s'.nx = s.nx → a'.defers = a.defers → Q .normal a' w') →
    wpOpsIn (FR ro) 0 E.P ops Q (List.range' i l.length) a w
  | [], i, s, a, w, ι, St, K, ho, hd, I, hf, hv, H => H s a w ι St hv I hf rfl rfl
  | o :: l, i, s, a, w, ι, St, K, ho, hd, I, hf, hv, H => by
    have hi := ho 0 o rfl
    simp only [Nat.add_zero] at hi
    have ho' : ∀ k o', l[k]? = some o' → ops[i + 1 + k]? = some o' := fun k o' h => by
      have := ho (k + 1) o' (by simpa using h)
      rw [← this]; congr 1; omega
    have hd' : ∀ o ∈ l, ∀ d, o.dst = some d → d < N := fun x hx => hd x (List.mem_cons_of_mem _ hx)
    have hdo := hd o (by simp)
    have hH : ∀ a1 : Act, a1.defers = a.defers → ∀ s' a' w' ι' St', K s' → Inv E N w0 St0 O0 ι0 s' a'.tmps w' ι' St' → (∀ m, s'.nm (i + 1 + l.length) ≤ m → ι' m = none) → s'.nx = s.nx → a'.defers = a1.defers → Q .normal a' w' := fun a1 h1 s' a' w' ι' St' hk hI hf hn hdf =>
      H s' a' w' ι' St' hk hI (by simpa [Nat.add_assoc, Nat.add_comm 1] using hf) hn (hdf.trans h1)
    have hput : ∀ v, (a.put o.dst v).defers = a.defers := fun v => by cases o.dst <;> rfl
    simp only [List.length_cons, List.range'_succ, wpOpsIn, hi]
    simp only [enum, vops] at hv
    have run : vop E T i o s (fun s' => vops E T ops.toList (enum (i + 1) l) s' K) → o.wpIn (FR ro) 0 E.P a w (wpOpsIn (FR ro) 0 E.P ops Q (List.range' (i + 1) l.length)) Q := by
      intro hv
      refine vop_step ok TS I.rel (fun m h1 h2 => hf m h1) hdo rfl (fun _ _ => rfl) hv (fun wr v u w' ι' St' hk hn hs => ?_)
      refine vops_sound ok TS l (i + 1) _ (a.put o.dst u) w' ι' St' K ho' hd' (I.step (Nat.le_trans I.nbx (Nat.le_add_right _ _)) hs) (fun m hm => ?_) hk (hH _ (hput u))
      cases hm' : ι' m with
      | none => rfl
      | some x =>
        exfalso
        simp only [S.nm, S.put] at hm
        rcases hs.new m (by rw [hm']; simp) with h | h
        · exact h (hf m (by simp only [S.nm]; omega))
        · simp only [S.nm] at h; omega
    have skip : vops E T ops.toList (enum (i + 1) l) (s.put [] o.dst (.tup [])) K → wpOpsIn (FR ro) 0 E.P ops Q (List.range' (i + 1) l.length) (a.put o.dst undef) w := by
      intro hv
      exact vops_sound ok TS l (i + 1) _ (a.put o.dst undef) w ι St K ho' hd' (I.skip o.dst) (fun m hm => hf m (by simp only [S.nm, S.put] at hm ⊢; omega)) hv (hH _ (hput undef))
    cases hg : o.guard with
    | none =>
      rw [hg] at hv
      have : Region.wanted o (yielded ops a.tmps) = true := by unfold Region.wanted; rw [hg]
      rw [if_pos this]
      exact run hv
    | some jw =>
      obtain ⟨j, want⟩ := jw
      rw [hg] at hv
      simp only [] at hv
      cases hj : ops.toList[j]? with
      | none => rw [hj] at hv; exact hv.elim
      | some og =>
        rw [hj] at hv
        simp only [] at hv
        cases hdg : og.dst with
        | none => rw [hdg] at hv; exact hv.elim
        | some d =>
          rw [hdg] at hv
          simp only [] at hv
          cases hsd : s.t d with
          | bool c =>
            rw [hsd] at hv
            have hw := wanted_of I.rel (ops := ops) hg (d := d) (by unfold guardTmp; rw [hg]; simp only [hj, hdg]) hsd
            rw [hw]
            cases c with
            | true =>
              simp only [cond_true, put_same hsd] at hv
              cases want with
              | true => exact run hv
              | false => simp only [cond_false] at hv; exact ⟨fun _ _ => trivial, skip hv⟩
            | false =>
              simp only [cond_false, put_same hsd] at hv
              cases want with
              | true => simp only [cond_true] at hv; exact ⟨fun _ _ => trivial, skip hv⟩
              | false => exact run hv
          | tup l =>
            cases l with
            | nil =>
              rw [hsd] at hv
              have hw := wanted_no I.rel (ops := ops) hg (d := d) (by unfold guardTmp; rw [hg]; simp only [hj, hdg]) hsd
              rw [hw]
              exact ⟨fun _ _ => trivial, skip hv⟩
            | cons _ _ => rw [hsd] at hv; exact hv.elim
          | _ => rw [hsd] at hv; exact hv.elim
end
end Go.V
