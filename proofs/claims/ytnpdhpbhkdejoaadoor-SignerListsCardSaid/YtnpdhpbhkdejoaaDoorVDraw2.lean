/- V: a region whose order is open: sound for each order. -/
import Derived.Test.YtnpdhpbhkdejoaaDoorVDraw
set_option linter.unusedVariables false
set_option linter.unusedSimpArgs false
namespace Go.V
variable {U : Nat → Type}

theorem statRow_spec {b : List Nat} {i : Nat} {o : Oper} : ∀ {l : List (Nat × Oper)}, statRow b i o l = true → ∀ x ∈ l, x.1 < i → soft x.2 = false → soft o = false → x.1 ∈ b
  | [], h, x, hx => by cases hx
  | (j, p) :: l, h, x, hx => by
    simp only [statRow, Bool.and_eq_true] at h
    intro h1 h2 h3
    rcases List.mem_cons.1 hx with rfl | hx
    · have : Nat.blt j i = true := by simpa [Nat.blt_eq] using h1
      rw [this] at h
      simp only [cond_true, Bool.or_eq_true, memN_iff] at h
      rcases h.1 with h | h | h
      · exact h
      · simp only [] at h2; rw [h2] at h; simp at h
      · rw [h3] at h; simp at h
    · exact statRow_spec h.2 x hx h1 h2 h3

theorem stat_spec {ops : List Oper} (h : stat ops = true) : (∀ (i : Nat) (o : Oper), ops[i]? = some o → ∀ e ∈ o.after.toList, Region.binds .any e = true → e.on < i) ∧
    (∀ (i j : Nat) (o p : Oper), ops[i]? = some o → ops[j]? = some p → j < i → soft p = false → soft o = false → j ∈ befOf (befores ops []) i) := by
  simp only [stat, List.all_eq_true, Bool.and_eq_true] at h
  have hm : ∀ i o, ops[i]? = some o → (i, o) ∈ enum 0 ops := fun i o hi => (mem_enum (ops := ops)).2 ⟨i, hi, by simp⟩
  refine ⟨fun i o hi e he hb => ?_, fun i j o p hi hj hlt hp ho => ?_⟩
  · have := (h (i, o) (hm i o hi)).2 e.on (mem_edges he hb)
    simpa [Nat.blt_eq] using this
  · exact statRow_spec (h (i, o) (hm i o hi)).1 (j, p) (hm j p hj) hlt hp ho

section
variable {ro : Option Nat}
variable {E : Env U} {N : Nat} {w0 : World} {St0 : Bool → Nat → Prop} {O0 : Nat → Prop} {ι0 : Ini} {ops : Array Oper}

abbrev befs (ops : Array Oper) (i : Nat) : List Nat := befOf (befores ops.toList []) i

structure DI (E : Env U) (ops : Array Oper) (N : Nat) (w0 : World) (St0 : Bool → Nat → Prop) (O0 : Nat → Prop) (ι0 : Ini) (n0 : Nat) (pend : List (Pn U)) (r : List (Nat × Oper)) (acc : List Ahead) (done : List Nat) (listed : Array Bool)
    (sc : S U) (a : Act) (w : World) (ι : Nat → Option Value) (St : Bool → Nat → Prop) : Prop where
  inv : Inv E N w0 St0 O0 ι0 sc a.tmps w ι St
  prs : Prs E ops.toList pend sc
  clr : pend.Pairwise fun q p => q.i ∈ befs ops p.i ∨ Clr ops.toList q p.o p.look (· ∈ p.wr.map (·.1))
  acc : ∀ q ∈ pend, (⟨q.i, q.o, q.look, q.wr.map (·.1)⟩ : Ahead) ∈ acc
  pop : ∀ p ∈ pend, ops[p.i]? = some p.o
  nod : (pend.map (·.i) ++ r.map (·.1)).Nodup
  lst : ∀ i, i < ops.size → (listed.getD i true = false ↔ i ∈ pend.map (·.i) ∨ i ∈ r.map (·.1))
  siz : listed.size = ops.size
  good : Good ops.toList done r
  don : ∀ i, i < ops.size → (i ∈ done ↔ i ∉ r.map (·.1))
  dcl : ∀ j ∈ done, ∀ e ∈ edgesAt ops.toList j, e ∈ done
  lcl : ∀ j, listed.getD j false = true → ∀ e ∈ edgesAt ops.toList j, listed.getD e false = true
  fre : ∀ i, i ∈ pend.map (·.i) ∨ i ∈ r.map (·.1) → ∀ m, sc.nm i ≤ m → m < sc.nm i + 100 → ι m = none
  top : ∀ m, sc.nm ops.size ≤ m → ι m = none
  nx : sc.nx = n0

variable {pend : List (Pn U)} {r : List (Nat × Oper)} {acc : List Ahead} {done : List Nat} {listed : Array Bool} {sc : S U} {a : Act} {w : World} {ι : Nat → Option Value} {St : Bool → Nat → Prop} {T : Tab U} {K : S U → Prop} {x : Nat × Oper} {n0 : Nat}

theorem listed_both {i : Nat} (hs : listed.size = ops.size) (hi : i < ops.size) : listed.getD i true = listed.getD i false := by
  simp [hs, hi]

theorem DI.lt (D : DI E ops N w0 St0 O0 ι0 n0 pend r acc done listed sc a w ι St) {p : Pn U} (hp : p ∈ pend) : p.i < ops.size := (Array.getElem?_eq_some_iff.1 (D.pop p hp)).1

/-- V goes ahead -/
theorem DI.ahead (D : DI E ops N w0 St0 O0 ι0 n0 pend (x :: r) acc done listed sc a w ι St) (p : Pn U) (hi : p.i = x.1) (ho : p.o = x.2) (hp : Pr E ops.toList p (puts pend sc))
    (hc : ∀ q ∈ acc, q.i ∈ befs ops p.i ∨ (apartT ops.toList q.o p.o = true ∧ (∀ n ∈ q.look, n ∉ p.wr.map (·.1)) ∧ (∀ n ∈ q.wr, n ∉ p.look))) :
    DI E ops N w0 St0 O0 ι0 n0 (pend ++ [p]) r (acc ++ [⟨p.i, p.o, p.look, p.wr.map (·.1)⟩]) (x.1 :: done) listed sc a w ι St := by
  have hg := D.good
  cases hg with
  | cons g1 g2 g3 g4 g5 =>
  have e1 : ((pend ++ [p]).map (·.i) ++ r.map (·.1)) = (pend.map (·.i) ++ (x :: r).map (·.1)) := by simp [hi]
  have e2 : ∀ i, (i ∈ (pend ++ [p]).map (·.i) ∨ i ∈ r.map (·.1)) ↔ (i ∈ pend.map (·.i) ∨ i ∈ (x :: r).map (·.1)) := fun i => by
    rw [← List.mem_append, ← List.mem_append, e1]
  have hlt : x.1 < ops.size := by
    have : ops.toList[x.1]? = some x.2 := g3
    rw [Array.getElem?_toList] at this
    exact (Array.getElem?_eq_some_iff.1 this).1
  refine ⟨D.inv, Prs.append.2 ⟨D.prs, hp, trivial⟩, ?_, fun q hq => ?_, fun q hq => ?_, by rw [e1]; exact D.nod, fun i h => by rw [e2]; exact D.lst i h, D.siz, g5, fun i h => ?_, fun j hj e he => ?_, D.lcl, fun i h => D.fre i ((e2 i).1 h), D.top, D.nx⟩
  · refine List.pairwise_append.2 ⟨D.clr, List.pairwise_singleton _ _, fun q hq p' hp' => ?_⟩
    simp only [List.mem_cons, List.not_mem_nil, or_false] at hp'
    subst hp'
    rcases hc _ (D.acc q hq) with h | ⟨h1, h2, h3⟩
    · exact .inl h
    · exact .inr ⟨h1, h2, h3⟩
  · rcases List.mem_append.1 hq with hq | hq
    · exact List.mem_append_left _ (D.acc q hq)
    · simp only [List.mem_cons, List.not_mem_nil, or_false] at hq
      subst hq; simp
  · rcases List.mem_append.1 hq with hq | hq
    · exact D.pop q hq
    · simp only [List.mem_cons, List.not_mem_nil, or_false] at hq
      subst hq; rw [hi, ho, ← Array.getElem?_toList]; exact g3
  · have := D.don i h
    have hn := D.nod
    rw [List.nodup_append] at hn
    have hn2 := hn.2.1
    simp only [List.map_cons, List.nodup_cons] at hn2
    simp only [List.mem_cons, this, List.map_cons, not_or]
    constructor
    · rintro (rfl | h)
      · exact hn2.1
      · exact h.2
    · intro h
      by_cases e : i = x.1
      · exact .inl e
      · exact .inr ⟨e, h⟩
  · rcases List.mem_cons.1 hj with rfl | hj
    · have : edgesAt ops.toList x.1 = edges x.2.after.toList := by unfold edgesAt; rw [g3]
      rw [this] at he
      exact List.mem_cons_of_mem _ (g1 e he)
    · exact List.mem_cons_of_mem _ (D.dcl j hj e he)

theorem wants_region {o : Oper} {s : S U} (R : Rel E s N a.tmps w ι St) (h : Wants ops.toList o s) : Region.wanted o (yielded ops a.tmps) = true := by
  rcases h with h | ⟨j, want, d, h1, h2, h3⟩
  · unfold Region.wanted; rw [h]
  · rw [wanted_of R h1 h2 h3]; simp
theorem wants_region' {o : Oper} {s : S U} (R : Rel E s N a.tmps w ι St) (h : Wants' ops.toList o s) : Region.wanted o (yielded ops a.tmps) = false := by
  obtain ⟨j, want, d, h1, h2, h3 | h3⟩ := h
  · rw [wanted_of R h1 h2 h3]; cases want <;> rfl
  · exact wanted_no R h1 h2 h3

/-- what is ready waits for nothing that is not done -/
theorem DI.ready (D : DI E ops N w0 St0 O0 ι0 n0 pend r acc done listed sc a w ι St) {i : Nat} (hr : i ∈ Region.ready .any ops listed) :
    i < ops.size ∧ (i ∈ pend.map (·.i) ∨ i ∈ r.map (·.1)) ∧ (∀ e ∈ edgesAt ops.toList i, listed.getD e false = true) ∧ (∀ q ∈ pend, q.i ∉ befs ops i) := by
  obtain ⟨h0, o, ho, he⟩ := mem_ready.1 hr
  have hlt := (Array.getElem?_eq_some_iff.1 ho).1
  have h2 : ∀ e ∈ edgesAt ops.toList i, listed.getD e false = true := fun n hn => by
    unfold edgesAt at hn
    rw [Array.getElem?_toList, ho] at hn
    obtain ⟨e, h1, h2, rfl⟩ := edges_mem hn
    exact he e (by simpa using h1) h2
  refine ⟨hlt, (D.lst i hlt).1 h0, h2, fun q hq hb => ?_⟩
  have := bef_closed (D := fun j => listed.getD j false = true) D.lcl i h2 q.i hb
  have h3 := (D.lst q.i (D.lt hq)).2 (.inl (List.mem_map_of_mem hq))
  rw [listed_both D.siz (D.lt hq), this] at h3
  simp at h3

/-- after an operation: what is left -/
theorem lst_after (hs : listed.size = ops.size) {i k : Nat} (hk : k < ops.size) : (listed.setIfInBounds i true).getD k true = false ↔ listed.getD k true = false ∧ k ≠ i := by
  by_cases h : i = k
  · subst h; simp [hs, hk]
  · rw [getD_set_ne true h]; simp; intro _ e; exact h e.symm

theorem lcl_after (hl : ∀ j, listed.getD j false = true → ∀ e ∈ edgesAt ops.toList j, listed.getD e false = true) {i : Nat} (hi : ∀ e ∈ edgesAt ops.toList i, listed.getD e false = true) :
    ∀ j, (listed.setIfInBounds i true).getD j false = true → ∀ e ∈ edgesAt ops.toList j, (listed.setIfInBounds i true).getD e false = true := fun j hj e he => by
  by_cases h : i = j
  · subst h; exact getD_set_true (hi e he)
  · rw [getD_set_ne false h] at hj; exact getD_set_true (hl j hj e he)

/-- one that has gone ahead is run -/
theorem DI.pend_step (ok : EnvOk2 E) (hd : ∀ o ∈ ops.toList, ∀ d, o.dst = some d → d < N) {l1 l2 : List (Pn U)} {p : Pn U} (D : DI E ops N w0 St0 O0 ι0 n0 (l1 ++ p :: l2) r acc done listed sc a w ι St) (hr : p.i ∈ Region.ready .any ops listed)
    {next : Act → World → Prop} {Q : Exit → Act → World → Prop} (h : ∀ a' w' ι' St', DI E ops N w0 St0 O0 ι0 n0 (l1 ++ l2) r acc done (listed.setIfInBounds p.i true) (p.on sc) a' w' ι' St' → puts (l1 ++ l2) (p.on sc) = puts (l1 ++ p :: l2) sc → a'.defers = a.defers → next a' w') :
    wpOpIn (FR ro) 0 E.P ops Q p.i next a w := by
  obtain ⟨q1, q2, q3, q4⟩ := D.ready hr
  have hpm : p ∈ l1 ++ p :: l2 := by simp
  have hop := D.pop p hpm
  have hc := (List.pairwise_append.1 D.clr)
  have hcl : ∀ q ∈ l1, Clr ops.toList q p.o p.look (· ∈ p.wr.map (·.1)) := fun q hq => (hc.2.2 q hq p (by simp)).resolve_left (q4 q (by simp [hq]))
  obtain ⟨p1, p2⟩ := Prs.append.1 D.prs
  obtain ⟨f1, f2, f3, f4⟩ := front (v := p.v) l1 hcl p1
  have hpr : Pr E ops.toList p sc := p2.1.agree (puts_nx l1 sc).symm (fun d hd => (f3 d hd).symm) (fun n hn => (f4 n hn).symm)
  have hon : p.on (puts l1 sc) = puts l1 (p.on sc) := f1
  have heq : puts (l1 ++ l2) (p.on sc) = puts (l1 ++ p :: l2) sc := by
    rw [puts_append, puts_append, puts, hon]
  have hprs : Prs E ops.toList (l1 ++ l2) (p.on sc) := Prs.append.2 ⟨f2, by have := p2.2; rw [hon] at this; exact this⟩
  have hne : ∀ k, k ∈ (l1 ++ l2).map (·.i) ∨ k ∈ r.map (·.1) → (k ∈ (l1 ++ p :: l2).map (·.i) ∨ k ∈ r.map (·.1)) ∧ k ≠ p.i := fun k hk => by
    have hn := D.nod
    have : ((l1 ++ p :: l2).map (·.i) ++ r.map (·.1)) = l1.map (·.i) ++ p.i :: (l2.map (·.i) ++ r.map (·.1)) := by simp
    rw [this, List.nodup_append, List.nodup_cons] at hn
    obtain ⟨n1, ⟨n2, n3⟩, n4⟩ := hn
    simp only [List.map_append, List.mem_append, List.map_cons, List.mem_cons] at hk ⊢
    refine ⟨by rcases hk with (h | h) | h <;> simp [h], fun e => ?_⟩
    subst e
    rcases hk with (h | h) | h
    · exact n4 p.i h p.i (by simp) rfl
    · exact n2 (List.mem_append_left _ h)
    · exact n2 (List.mem_append_right _ h)
  have hne' : ∀ k, (k ∈ (l1 ++ p :: l2).map (·.i) ∨ k ∈ r.map (·.1)) → k ≠ p.i → k ∈ (l1 ++ l2).map (·.i) ∨ k ∈ r.map (·.1) := fun k hk hn => by
    simp only [List.map_append, List.mem_append, List.map_cons, List.mem_cons] at hk ⊢
    rcases hk with (h | h | h) | h
    · exact .inl (.inl h)
    · exact absurd h hn
    · exact .inl (.inr h)
    · exact .inr h
  have fin : ∀ (a' : Act) w' ι' St', Inv E N w0 St0 O0 ι0 (p.on sc) a'.tmps w' ι' St' → (∀ n, ι' n ≠ none → ι n ≠ none ∨ (sc.nm p.i ≤ n ∧ n < sc.nm p.i + 100)) → a'.defers = a.defers → next a' w' := by
    intro a' w' ι' St' hI hnew hdf
    have free : ∀ m, ι m = none → ¬ (sc.nm p.i ≤ m ∧ m < sc.nm p.i + 100) → ι' m = none := fun m h1 h2 => by
      cases hm : ι' m with
      | none => rfl
      | some z => exact absurd (hnew m (by rw [hm]; simp)) (fun h => h.elim (fun h => h h1) h2)
    refine h a' w' ι' St' ⟨hI, hprs, ?_, fun q hq => D.acc q ?_, fun q hq => D.pop q ?_, ?_, fun k hk => ?_, by simp [D.siz], D.good, D.don, D.dcl, lcl_after D.lcl q3, fun k hk m h1 h2 => ?_, fun m hm => ?_, D.nx⟩ heq hdf
    · refine List.pairwise_append.2 ⟨hc.1, (List.pairwise_cons.1 hc.2.1).2, fun q hq p' hp' => hc.2.2 q hq p' (by simp [hp'])⟩
    · rcases List.mem_append.1 hq with h | h <;> simp [h]
    · rcases List.mem_append.1 hq with h | h <;> simp [h]
    · have hn := D.nod
      refine hn.sublist ?_
      simp only [List.map_append, List.map_cons]
      exact List.Sublist.append (List.Sublist.append (List.Sublist.refl _) (List.sublist_cons_self _ _)) (List.Sublist.refl _)
    · rw [lst_after D.siz hk, D.lst k hk]
      exact ⟨fun h => hne' k h.1 h.2, fun h => hne k h⟩
    · obtain ⟨k1, k2⟩ := hne k hk
      refine free m (D.fre k k1 m h1 h2) (fun hh => ?_)
      simp only [S.nm] at hh
      simp only [S.nm, Pn.on, S.put] at h1 h2
      omega
    · refine free m (D.top m hm) (fun hh => ?_)
      simp only [S.nm] at hh
      simp only [S.nm, Pn.on, S.put] at hm
      omega
  have hdf : ∀ v, (a.put p.o.dst v).defers = a.defers := fun v => by cases p.o.dst <;> rfl
  unfold wpOpIn
  rw [hop]
  simp only []
  rcases hpr.2 with ⟨r1, r2, r3⟩ | ⟨r1, pre, rd, r2, r3, r4⟩
  · rw [wants_region' D.inv.rel r3]
    simp only [Bool.false_eq_true, if_false]
    have : p.on sc = sc.put [] p.o.dst (.tup []) := by unfold Pn.on; rw [r1, r2]
    exact ⟨fun _ _ => trivial, fin _ w ι St (by rw [this]; exact D.inv.skip p.o.dst) (fun n h => .inl h) (hdf _)⟩
  · rw [wants_region D.inv.rel r1]
    simp only [if_true]
    have hm : p.o ∈ ops.toList := by rw [Array.mem_toList_iff]; exact Array.mem_of_getElem? hop
    refine (op_step ok D.inv.rel (D.fre p.i (.inl (by simp))) (hd p.o hm) r2 r3 fun u w' ι' St' hs => ?_)
    exact fin _ w' ι' St' (D.inv.step (Nat.le_trans D.inv.nbx (Nat.le_add_right _ _)) hs) hs.new (hdf u)
end
end Go.V
