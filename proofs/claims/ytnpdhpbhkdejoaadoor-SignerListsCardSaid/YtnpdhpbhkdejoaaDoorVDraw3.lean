/- V: a region whose order is open: the end. -/
import Derived.Test.YtnpdhpbhkdejoaaDoorVDraw2
set_option linter.unusedVariables false
set_option linter.unusedSimpArgs false
namespace Go.V
variable {U : Nat → Type}
section
variable {ro : Option Nat}
variable {E : Env U} {N : Nat} {w0 : World} {St0 : Bool → Nat → Prop} {O0 : Nat → Prop} {ι0 : Ini} {ops : Array Oper}
variable {pend : List (Pn U)} {r : List (Nat × Oper)} {acc : List Ahead} {done : List Nat} {listed : Array Bool} {sc : S U} {a : Act} {w : World} {ι : Nat → Option Value} {St : Bool → Nat → Prop} {T : Tab U} {K : S U → Prop} {x : Nat × Oper} {n0 : Nat}

theorem soft_call {o : Oper} {s : S U} {b : Nat} {f : FuncId} {args : List (A U)} {look : List Nat} (hp : plan E b o s = .call f args look) : soft o = false := by
  obtain ⟨c, g, caps, ho, hc, -⟩ := call_plan hp
  unfold soft
  rw [ho]
  obtain ⟨callee, cargs, ats⟩ := c
  simp only [] at hc
  subst hc
  rfl

theorem soft_yield {o : Oper} {s : S U} {b : Nat} {n f lk : Nat} {vals args : List (A U)} {look : List Nat} (hp : plan E b o s = .yield n f lk vals args look) : soft o = false := by
  obtain ⟨c, g, ho, hc, -⟩ := yield_plan hp
  unfold soft
  rw [ho]
  obtain ⟨callee, cargs, ats⟩ := c
  simp only [] at hc
  subst hc
  rfl

theorem DI.hard_step (ok : EnvOk2 E) (TS : TSound E T) (hd : ∀ o ∈ ops.toList, ∀ d, o.dst = some d → d < N) {i : Nat} {o : Oper} (D : DI E ops N w0 St0 O0 ι0 n0 pend ((i, o) :: r) acc done listed sc a w ι St) (hr : i ∈ Region.ready .any ops listed)
    (hw : Wants ops.toList o (puts pend sc)) (hc : clear ops.toList ((puts pend sc).nm i) (befs ops i) o (lookOf (plan E ((puts pend sc).nm i) o (puts pend sc))) (wrOf (plan E ((puts pend sc).nm i) o (puts pend sc))) acc = true)
    (hv : vop E T i o (puts pend sc) K) {next : Act → World → Prop} {Q : Exit → Act → World → Prop}
    (h : ∀ sc' a' w' ι' St', DI E ops N w0 St0 O0 ι0 n0 pend r acc (i :: done) (listed.setIfInBounds i true) sc' a' w' ι' St' → K (puts pend sc') → a'.defers = a.defers → next a' w') :
    wpOpIn (FR ro) 0 E.P ops Q i next a w := by
  obtain ⟨q1, q2, q3, q4⟩ := D.ready hr
  have hg := D.good
  cases hg with
  | cons g1 g2 g3 g4 g5 =>
  simp only [Array.getElem?_toList] at g3
  have hcs : ∀ q ∈ pend, apartT ops.toList q.o o = true ∧ (∀ n ∈ q.look, n ∉ wrOf (plan E ((puts pend sc).nm i) o (puts pend sc))) ∧ (∀ n ∈ q.wr.map (·.1), n ∉ lookOf (plan E ((puts pend sc).nm i) o (puts pend sc))) ∧ (∀ n ∈ q.look, n < (puts pend sc).nm i ∨ (puts pend sc).nm i + 100 ≤ n) :=
    fun q hq => (clear_spec hc _ (D.acc q hq)).resolve_left (q4 q hq)
  obtain ⟨-, -, f3, f4⟩ := front (E := E) (wr := []) (v := .none) (o := o) (look := lookOf (plan E ((puts pend sc).nm i) o (puts pend sc))) pend (fun q hq => ⟨(hcs q hq).1, fun n _ hn => by simp at hn, (hcs q hq).2.2.1⟩) D.prs
  have hne : plan E ((puts pend sc).nm i) o (puts pend sc) ≠ .bad := fun e => by unfold vop at hv; rw [e] at hv; exact hv
  have hpl := plan_agree (ops := ops.toList) hne (fun d hd => (f3 d hd).symm) (fun n hn => (f4 n hn).symm)
  have hw' : Wants ops.toList o sc := hw.agree (fun d hd => (f3 d hd).symm)
  have hm : o ∈ ops.toList := by rw [Array.mem_toList_iff]; exact Array.mem_of_getElem? g3
  have hdf : ∀ v, (a.put o.dst v).defers = a.defers := fun v => by cases o.dst <;> rfl
  have hnd := D.nod
  have hnd' : i ∉ pend.map (·.i) ∧ i ∉ r.map (·.1) := by
    rw [List.nodup_append] at hnd
    simp only [List.map_cons, List.nodup_cons] at hnd
    exact ⟨fun h => hnd.2.2 i h i (by simp) rfl, hnd.2.1.1⟩
  have hnm : (puts pend sc).nm i = sc.nm i := puts_nm _ _ _
  unfold wpOpIn
  rw [g3]
  simp only []
  rw [wants_region D.inv.rel hw']
  simp only [if_true]
  refine (vop_step ok TS D.inv.rel (fun m h1 h2 => D.fre i (.inr (by simp)) m (by rw [← hnm]; exact h1) (by rw [← hnm]; exact h2)) (hd o hm) hpl (fun n hn => f4 n hn) hv fun wr v u w' ι' St' hk hn hs => ?_)
  have hcl : ∀ q ∈ pend, Clr ops.toList q o (lookOf (plan E ((puts pend sc).nm i) o (puts pend sc))) (· ∈ wr.map (·.1)) := fun q hq => ⟨(hcs q hq).1, fun n h1 h2 => by
    obtain ⟨y, hy, rfl⟩ := List.mem_map.1 h2
    rcases hn y hy with h | h
    · exact (hcs q hq).2.1 _ h1 h
    · have := (hcs q hq).2.2.2 _ h1; omega, (hcs q hq).2.2.1⟩
  obtain ⟨e1, e2, -, -⟩ := front (E := E) (wr := wr) (v := v) (o := o) pend hcl D.prs
  have free : ∀ m, ι m = none → ¬ (sc.nm i ≤ m ∧ m < sc.nm i + 100) → ι' m = none := fun m h1 h2 => by
    cases hm : ι' m with
    | none => rfl
    | some z =>
      rcases hs.new m (by rw [hm]; simp) with h | h
      · exact absurd h1 h
      · rw [hnm] at h; exact absurd h h2
  rw [e1] at hk
  refine h _ _ w' ι' St' ⟨D.inv.step (Nat.le_trans D.inv.nbx (by simp only [S.nm, puts_nx]; exact Nat.le_add_right _ _)) hs, e2, D.clr, D.acc, D.pop, ?_, fun k hk => ?_, by simp [D.siz], g5, fun k hk => ?_, fun j hj e he => ?_, lcl_after D.lcl q3, fun k hk m h1 h2 => ?_, fun m hm => ?_, D.nx⟩ hk (hdf u)
  · refine hnd.sublist ?_
    simp only [List.map_cons]
    exact List.Sublist.append (List.Sublist.refl _) (List.sublist_cons_self _ _)
  · rw [lst_after D.siz hk, D.lst k hk]
    simp only [List.map_cons, List.mem_cons]
    constructor
    · rintro ⟨h | h | h, h'⟩
      · exact .inl h
      · exact absurd h h'
      · exact .inr h
    · rintro (h | h)
      · exact ⟨.inl h, fun e => hnd'.1 (e ▸ h)⟩
      · exact ⟨.inr (.inr h), fun e => hnd'.2 (e ▸ h)⟩
  · have := D.don k hk
    simp only [List.map_cons, List.mem_cons, not_or] at this ⊢
    rw [this]
    constructor
    · rintro (h | h)
      · rw [h]; exact hnd'.2
      · exact h.2
    · intro h
      by_cases e : k = i
      · exact .inl e
      · exact .inr ⟨e, h⟩
  · rcases List.mem_cons.1 hj with rfl | hj
    · have : edgesAt ops.toList j = edges o.after.toList := by unfold edgesAt; rw [Array.getElem?_toList, g3]
      rw [this] at he
      exact List.mem_cons_of_mem _ (g1 e he)
    · exact List.mem_cons_of_mem _ (D.dcl j hj e he)
  · have hki : k ≠ i := fun e => by subst e; rcases hk with h | h; exact hnd'.1 h; exact hnd'.2 h
    refine free m (D.fre k (hk.imp id fun h => by simp only [List.map_cons]; exact List.mem_cons_of_mem _ h) m h1 h2) (fun hh => ?_)
    simp only [S.nm] at hh
    simp only [S.nm, S.put] at h1 h2
    omega
  · refine free m (D.top m hm) (fun hh => ?_)
    simp only [S.nm] at hh
    simp only [S.nm, S.put] at hm
    omega

theorem vdraw_cons {ops : List Oper} {bef : List (List Nat)} {s : S U} {i : Nat} {o : Oper} (hv : vdraw E T ops bef ((i, o) :: r) acc s K) :
    (Wants ops o s ∧ vopD E T ops bef i o acc s (fun acc' s' => vdraw E T ops bef r acc' s' K)) ∨ (Wants' ops o s ∧ vskip ops bef i o acc s (fun acc' s' => vdraw E T ops bef r acc' s' K)) := by
  simp only [vdraw] at hv
  cases hg : o.guard with
  | none => rw [hg] at hv; exact .inl ⟨.inl hg, hv⟩
  | some jw =>
    obtain ⟨j, want⟩ := jw
    rw [hg] at hv
    simp only [] at hv
    cases hd : guardTmp ops o with
    | none => rw [hd] at hv; exact hv.elim
    | some d =>
      rw [hd] at hv
      simp only [] at hv
      cases hs : s.t d with
      | bool c =>
        rw [hs] at hv
        simp only [] at hv
        cases c <;> cases want <;> simp only [cond_true, cond_false, put_same hs] at hv
        · exact .inl ⟨.inr ⟨j, false, d, hg, hd, hs⟩, hv⟩
        · exact .inr ⟨⟨j, true, d, hg, hd, .inl hs⟩, hv⟩
        · exact .inr ⟨⟨j, false, d, hg, hd, .inl hs⟩, hv⟩
        · exact .inl ⟨.inr ⟨j, true, d, hg, hd, hs⟩, hv⟩
      | tup l =>
        cases l with
        | nil => rw [hs] at hv; exact .inr ⟨⟨j, want, d, hg, hd, .inr hs⟩, hv⟩
        | cons _ _ => rw [hs] at hv; exact hv.elim
      | _ => rw [hs] at hv; exact hv.elim

theorem DI.run (ok : EnvOk2 E) (TS : TSound E T) (hd : ∀ o ∈ ops.toList, ∀ d, o.dst = some d → d < N) (hst : stat ops.toList = true) {i : Nat} (hr : i ∈ Region.ready .any ops listed) {fuel : Nat} {next : Act → World → Prop} {Q : Exit → Act → World → Prop}
    (H : ∀ pend r acc done sc a' w' ι' St', DI E ops N w0 St0 O0 ι0 n0 pend r acc done (listed.setIfInBounds i true) sc a' w' ι' St' → vdraw E T ops.toList (befores ops.toList []) r acc (puts pend sc) K → pend.length + r.length = fuel → a'.defers = a.defers → next a' w') :
    ∀ (r : List (Nat × Oper)) (pend : List (Pn U)) (acc : List Ahead) (done : List Nat), DI E ops N w0 St0 O0 ι0 n0 pend r acc done listed sc a w ι St → vdraw E T ops.toList (befores ops.toList []) r acc (puts pend sc) K → pend.length + r.length = fuel + 1 →
      wpOpIn (FR ro) 0 E.P ops Q i next a w := by
  have inPend : ∀ (r : List (Nat × Oper)) (pend : List (Pn U)) (acc : List Ahead) (done : List Nat), DI E ops N w0 St0 O0 ι0 n0 pend r acc done listed sc a w ι St → vdraw E T ops.toList (befores ops.toList []) r acc (puts pend sc) K → pend.length + r.length = fuel + 1 →
      i ∈ pend.map (·.i) → wpOpIn (FR ro) 0 E.P ops Q i next a w := by
    intro r pend acc done D hv hl hi
    obtain ⟨p, hp, rfl⟩ := List.mem_map.1 hi
    obtain ⟨l1, l2, rfl⟩ := List.append_of_mem hp
    refine D.pend_step ok hd hr fun a' w' ι' St' D' he hdf => H (l1 ++ l2) r acc done _ a' w' ι' St' D' (by rw [he]; exact hv) ?_ hdf
    simp only [List.length_append, List.length_cons] at hl ⊢
    omega
  intro r
  induction r with
  | nil =>
    intro pend acc done D hv hl
    rcases (D.ready hr).2.1 with h | h
    · exact inPend [] pend acc done D hv hl h
    · simp at h
  | cons x r ih =>
    intro pend acc done D hv hl
    by_cases hip : i ∈ pend.map (·.i)
    · exact inPend _ pend acc done D hv hl hip
    have hir := (D.ready hr).2.1.resolve_left hip
    obtain ⟨j, o⟩ := x
    have hlen : ∀ p : Pn U, (pend ++ [p]).length + r.length = fuel + 1 := fun p => by
      simp only [List.length_append, List.length_cons, List.length_nil] at hl ⊢; omega
    rcases vdraw_cons hv with ⟨hw, hv⟩ | ⟨hw, hv⟩
    · unfold vopD at hv
      simp only [] at hv
      cases hc : clear ops.toList ((puts pend sc).nm j) (befOf (befores ops.toList []) j) o (lookOf (plan E ((puts pend sc).nm j) o (puts pend sc))) (wrOf (plan E ((puts pend sc).nm j) o (puts pend sc))) acc with
      | false => rw [hc] at hv; exact hv.elim
      | true =>
        rw [hc] at hv
        simp only [cond_true] at hv
        cases hs : soft o with
        | true =>
          rw [hs] at hv
          simp only [cond_true] at hv
          unfold vop at hv
          cases hpl : plan E ((puts pend sc).nm j) o (puts pend sc) with
          | bad => rw [hpl] at hv; exact hv.elim
          | call f args look => have := soft_call hpl; rw [hs] at this; simp at this
          | yield n f id vals args look => have := soft_yield hpl; rw [hs] at this; simp at this
          | any q rd neg => have := soft_any hpl; rw [hs] at this; simp at this
          | done pre rd wr v =>
            rw [hpl] at hv hc
            have hk : (∀ q, pre = some q → q) ∧ vdraw E T ops.toList (befores ops.toList []) r (acc ++ [⟨j, o, rd ++ wr.map (·.1), wr.map (·.1)⟩]) ((puts pend sc).put wr o.dst v) K := by
              cases pre with
              | none => exact ⟨fun p hp => by simp at hp, hv⟩
              | some q => exact ⟨fun p hp => by obtain rfl := Option.some.inj hp; exact hv.1, hv.2⟩
            have D' := D.ahead ⟨j, o, rd ++ wr.map (·.1), wr, v⟩ rfl rfl ⟨fun y hy => List.mem_append_right _ (List.mem_map_of_mem hy), .inr ⟨hw, pre, rd, hpl, hk.1, rfl⟩⟩
              (fun q hq => (clear_spec hc q hq).imp id fun h => ⟨h.1, h.2.1, h.2.2.1⟩)
            exact ih _ _ _ D' (by rw [puts_append]; exact hk.2) (hlen _)
        | false =>
          rw [hs] at hv
          simp only [cond_false] at hv
          by_cases hji : j = i
          · subst hji
            refine D.hard_step ok TS hd hr hw hc hv fun sc' a' w' ι' St' D' hk hdf => H pend r acc _ sc' a' w' ι' St' D' hk ?_ hdf
            simp only [List.length_cons] at hl; omega
          · exfalso
            have hg := D.good
            cases hg with
            | cons g1 g2 g3 g4 g5 =>
            obtain ⟨q1, q2, q3, q4⟩ := D.ready hr
            have hnd : i ∉ done := fun h => (D.don i q1).1 h hir
            have hed : ∀ e ∈ edgesAt ops.toList i, e ∈ done := fun e he => by
              have h1 := q3 e he
              have hlt : e < ops.size := by
                rw [← D.siz]
                rcases Nat.lt_or_ge e listed.size with h | h
                · exact h
                · rw [Array.getD_eq_getD_getElem?, Array.getElem?_eq_none h] at h1; simp at h1
              refine (D.don e hlt).2 fun h => ?_
              have := (D.lst e hlt).2 (.inr h)
              rw [listed_both D.siz hlt, h1] at this
              simp at this
            obtain ⟨oi, hoi⟩ : ∃ oi, ops.toList[i]? = some oi := ⟨ops[i], by rw [Array.getElem?_toList]; simp [q1]⟩
            have hei : edgesAt ops.toList i = edges oi.after.toList := by unfold edgesAt; rw [hoi]
            have hsi : soft oi = false := by
              cases h : soft oi with
              | false => rfl
              | true => exact absurd (by rw [← hei]; exact hed) (g4 hs i oi hoi h hnd)
            obtain ⟨-, st⟩ := stat_spec hst
            rcases Nat.lt_trichotomy j i with h | h | h
            · have := bef_closed (D := (· ∈ done)) D.dcl i hed j (st i j oi o hoi g3 h hs hsi)
              exact g2 this
            · exact hji h
            · have he : ∀ e ∈ edgesAt ops.toList j, e ∈ done := fun e he => g1 e (by have : edgesAt ops.toList j = edges o.after.toList := by { unfold edgesAt; rw [g3] }
                                                                                     rw [this] at he; exact he)
              have := bef_closed (D := (· ∈ done)) D.dcl j he i (st j i o oi g3 hoi h hsi hs)
              exact hnd this
    · unfold vskip at hv
      cases hc : clear ops.toList ((puts pend sc).nm j) (befOf (befores ops.toList []) j) o [] [] acc with
      | false => rw [hc] at hv; exact hv.elim
      | true =>
        rw [hc] at hv
        simp only [cond_true] at hv
        have D' := D.ahead ⟨j, o, [], [], .tup []⟩ rfl rfl ⟨(by intro y hy; cases hy), .inl ⟨rfl, rfl, hw⟩⟩ (fun q hq => (clear_spec hc q hq).imp id fun h => ⟨h.1, h.2.1, h.2.2.1⟩)
        exact ih _ _ _ D' (by rw [puts_append]; exact hv) (hlen _)

theorem DI.sound (ok : EnvOk2 E) (TS : TSound E T) (hd : ∀ o ∈ ops.toList, ∀ d, o.dst = some d → d < N) (hst : stat ops.toList = true) {d0 : List Deferred} {Q : Exit → Act → World → Prop}
    (H : ∀ s' a' w' ι' St', K s' → Inv E N w0 St0 O0 ι0 s' a'.tmps w' ι' St' → (∀ m, s'.nm ops.size ≤ m → ι' m = none) → s'.nx = n0 → a'.defers = d0 → Q .normal a' w') :
    ∀ (fuel : Nat) (pend : List (Pn U)) (r : List (Nat × Oper)) (acc : List Ahead) (done : List Nat) (listed : Array Bool) (sc : S U) (a : Act) (w : World) (ι : Nat → Option Value) (St : Bool → Nat → Prop),
      pend.length + r.length = fuel → DI E ops N w0 St0 O0 ι0 n0 pend r acc done listed sc a w ι St → vdraw E T ops.toList (befores ops.toList []) r acc (puts pend sc) K → a.defers = d0 → wpAnyIn (FR ro) 0 E.P .any ops Q fuel listed a w := by
  intro fuel
  induction fuel with
  | zero =>
    intro pend r acc done listed sc a w ι St hl D hv hdf
    have hp : pend = [] := List.eq_nil_of_length_eq_zero (by omega)
    have hr : r = [] := List.eq_nil_of_length_eq_zero (by omega)
    subst hp hr
    refine ⟨List.eq_nil_iff_forall_not_mem.2 fun i hi => ?_, H sc a w ι St hv D.inv D.top D.nx hdf⟩
    rcases (D.ready hi).2.1 with h | h <;> simp at h
  | succ fuel ih =>
    intro pend r acc done listed sc a w ι St hl D hv hdf
    refine ⟨fun hnil => ?_, fun i hi => DI.run ok TS hd hst hi (fun pend r acc done sc a' w' ι' St' D' hv' hl' hdf' => ih pend r acc done _ sc a' w' ι' St' hl' D' hv' (hdf'.trans hdf)) r pend acc done D hv hl⟩
    exfalso
    have all : ∀ i, i < ops.size → listed.getD i true = true := by
      intro i
      induction i using Nat.strongRecOn with
      | _ i ihi =>
        intro hlt
        cases h : listed.getD i true with
        | true => rfl
        | false =>
          have : i ∈ Region.ready .any ops listed := by
            refine mem_ready.2 ⟨h, ops[i], by simp [hlt], fun e he hb => ?_⟩
            have hlt' := (stat_spec hst).1 i ops[i] (by rw [Array.getElem?_toList]; simp [hlt]) e (by simpa using he) hb
            have := ihi e.on hlt' (by omega)
            rwa [listed_both D.siz (by omega)] at this
          rw [hnil] at this; cases this
    have ex : ∃ i, i < ops.size ∧ (i ∈ pend.map (·.i) ∨ i ∈ r.map (·.1)) := by
      cases pend with
      | cons p l => exact ⟨p.i, D.lt (by simp), .inl (by simp)⟩
      | nil =>
        cases r with
        | nil => simp at hl
        | cons y r =>
          have hg := D.good
          cases hg with
          | cons g1 g2 g3 g4 g5 => rw [Array.getElem?_toList] at g3; exact ⟨y.1, (Array.getElem?_eq_some_iff.1 g3).1, .inr (by simp)⟩
    obtain ⟨i, h1, h2⟩ := ex
    have h3 := (D.lst i h1).2 h2
    rw [all i h1] at h3
    simp at h3

theorem Good.names {ops : List Oper} {done : List Nat} {r : List (Nat × Oper)} (h : Good ops done r) : (r.map (·.1)).Nodup ∧ ∀ j ∈ r.map (·.1), j < ops.length ∧ j ∉ done := by
  induction h with
  | nil => simp
  | @cons done x r g1 g2 g3 g4 g5 ih =>
    obtain ⟨i1, i2⟩ := ih
    simp only [List.map_cons, List.nodup_cons, List.mem_cons, forall_eq_or_imp]
    refine ⟨⟨fun h => (i2 _ h).2 (by simp), i1⟩, ⟨(List.getElem?_eq_some_iff.1 g3).1, g2⟩, fun j hj => ⟨(i2 j hj).1, fun h => (i2 j hj).2 (by simp [h])⟩⟩

theorem List.Nodup.length_le_of_subset_range : ∀ {n : Nat} {l : List Nat}, l.Nodup → (∀ j ∈ l, j < n) → l.length ≤ n := by
  intro n
  induction n with
  | zero => intro l _ h; cases l with | nil => simp | cons x l => exact absurd (h x (by simp)) (by omega)
  | succ n ih =>
    intro l hn hl
    by_cases hm : n ∈ l
    · have := ih (l := l.erase n) (hn.erase n) (fun j hj => by
        have h4 := (List.Nodup.mem_erase_iff hn).1 hj
        have := hl j h4.2
        have := h4.1
        omega)
      rw [List.length_erase_of_mem hm] at this
      omega
    · have := ih hn (fun j hj => by
        have := hl j hj
        have : j ≠ n := fun e => hm (e ▸ hj)
        omega)
      omega

theorem full_of_nodup : ∀ {n : Nat} {l : List Nat}, l.Nodup → (∀ j ∈ l, j < n) → l.length = n → ∀ i, i < n → i ∈ l := by
  intro n
  induction n with
  | zero => intro l _ _ _ i hi; omega
  | succ n ih =>
    intro l hn hl hlen i hi
    have hmem : n ∈ l := by
      refine Classical.byContradiction fun hnot => ?_
      have hlt : ∀ j ∈ l, j < n := fun j hj => by
        have := hl j hj
        have : j ≠ n := fun e => hnot (e ▸ hj)
        omega
      have h2 : l.length ≤ n := by
        have := List.Nodup.length_le_of_subset_range hn hlt
        exact this
      omega
    by_cases e : i = n
    · rw [e]; exact hmem
    · have h3 := ih (l := l.erase n) (hn.erase n) (fun j hj => by
        have h4 := (List.Nodup.mem_erase_iff hn).1 hj
        have := hl j h4.2
        have := h4.1
        omega) (by rw [List.length_erase_of_mem hmem]; omega) i (by omega)
      exact List.mem_of_mem_erase h3

/-- a region -/
theorem vregion_sound (ok : EnvOk2 E) (TS : TSound E T) (hm : E.P.follows .mixedOrders = true) {id : Nat} {draw : Bool} (hd : ∀ o ∈ ops.toList, ∀ d, o.dst = some d → d < N) (hst : draw = true → stat ops.toList = true) {s : S U}
    (I : Inv E N w0 St0 O0 ι0 s a.tmps w ι St) (hf : ∀ m, s.nx ≤ m → ι m = none) (hv : vregion E T ops draw s K) {Q : Exit → Act → World → Prop}
    (H : ∀ s' a' w' ι' St', K s' → Inv E N w0 St0 O0 ι0 s' a'.tmps w' ι' St' → (∀ m, s'.nx ≤ m → ι' m = none) → a'.defers = a.defers → Q .normal a' w') : (Code.region id ops draw).wpIn (FR ro) 0 E.P Q a w := by
  have fin : ∀ s' (a' : Act) w' ι' St', K { s' with nx := s.nm ops.size } → Inv E N w0 St0 O0 ι0 s' a'.tmps w' ι' St' → (∀ m, s'.nm ops.size ≤ m → ι' m = none) → s'.nx = s.nx → a'.defers = a.defers → Q .normal a' w' := by
    intro s' a' w' ι' St' hk hI hf' hn hdf
    refine H _ a' w' ι' St' hk ⟨⟨hI.rel.tsz, hI.rel.tmp, hI.rel.obj, hI.rel.dis, hI.rel.stb, hI.rel.apt, hI.rel.sup⟩, hI.fr, hI.own, hI.gr, hI.old, Nat.le_trans hI.nbx (by rw [hn]; exact Nat.le_add_right _ _), hI.nbe, hI.hid, hI.hnd⟩ (fun m hm => hf' m ?_) hdf
    simp only [S.nm] at hm ⊢
    omega
  unfold vregion at hv
  simp only [] at hv
  cases draw with
  | false =>
    simp only [cond_false] at hv
    refine wpIn_region ?_
    rw [List.range_eq_range']
    have := vops_sound (ro := ro) ok TS (ops := ops) (Q := Q) ops.toList 0 s a w ι St (fun s' => K { s' with nx := s.nm ops.toList.length }) (fun k o h => by rw [Nat.zero_add, ← Array.getElem?_toList]; exact h) hd I (fun m hm => hf m (by simpa [S.nm] using hm)) hv
      (fun s' a' w' ι' St' hk hI hf' hn hdf => fin s' a' w' ι' St' (by simpa using hk) hI (by simpa using hf') hn hdf)
    simpa using this
  | true =>
    simp only [cond_true] at hv
    cases hb : Nat.beq (sched (enum 0 ops.toList) ops.toList.length []).length ops.toList.length with
    | false => rw [hb] at hv; exact hv.elim
    | true =>
      rw [hb] at hv
      simp only [cond_true] at hv
      have hlen := Nat.eq_of_beq_eq_true hb
      have hst := hst rfl
      have hg : Good ops.toList [] (sched (enum 0 ops.toList) ops.toList.length []) := sched_good _ _
      obtain ⟨g1, g2⟩ := hg.names
      refine wpIn_region_any hm (DI.sound (K := fun s' => K { s' with nx := s.nm ops.toList.length }) (n0 := s.nx) (d0 := a.defers) ok TS hd hst (fun s' a' w' ι' St' hk hI hf' hn hdf => fin s' a' w' ι' St' (by simpa using hk) hI hf' hn hdf) ops.size [] _ [] [] _ s a _ ι St (by simpa using hlen) ?_ hv rfl)
      have hall : ∀ i, i < ops.size → i ∈ (sched (enum 0 ops.toList) ops.toList.length []).map (·.1) := by
        intro i hi
        refine full_of_nodup g1 (fun j hj => (g2 j hj).1) ?_ i hi
        simpa using hlen
      exact ⟨I.drew, trivial, .nil, fun q hq => (by cases hq), fun q hq => (by cases hq), by simpa using g1, fun i hi => ⟨fun _ => .inr (hall i hi), fun _ => by simp [hi]⟩, by simp, hg, fun i hi => ⟨fun h => by (cases h), fun h => absurd (hall i hi) h⟩, fun j hj => (by cases hj),
        fun j hj => (by
          exfalso
          rcases Nat.lt_or_ge j ops.size with h | h
          · simp [h] at hj
          · rw [Array.getD_eq_getD_getElem?, Array.getElem?_eq_none (by simpa using h)] at hj; simp at hj), fun i _ m h1 _ => hf m (by simp only [S.nm] at h1; omega), fun m hm => hf m (by simp only [S.nm] at hm; omega), rfl⟩
end
end Go.V
