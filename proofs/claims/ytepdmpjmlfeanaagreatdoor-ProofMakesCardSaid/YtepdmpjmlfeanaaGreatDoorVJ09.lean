/- V: VDraw3, VLay2, VRet, VHid, VCtl -/
import Derived.Test.YtepdmpjmlfeanaaGreatDoorVJ08
import Derived.Laws.Sem
import Derived.RangeFuncRecord
import Derived.RangeFuncIn
/- V: a region whose order is open: the end. -/
set_option linter.unusedVariables false
set_option linter.unusedSimpArgs false
namespace Go.V
variable {U : Nat → Type}
section
variable {ro : Option Nat}
variable {E : Env U} {N : Nat} {w0 : World} {St0 : Ck U → Nat → Prop} {O0 : Nat → Prop} {ι0 : Ini} {ops : Array Oper}
variable {pend : List (Pn U)} {r : List (Nat × Oper)} {acc : List Ahead} {done : List Nat} {listed : Array Bool} {sc : S U} {a : Act} {w : World} {ι : Nat → Option Value} {St : Ck U → Nat → Prop} {T : Tab U} {K : S U → Prop} {x : Nat × Oper} {n0 : Nat}

theorem soft_call {o : Oper} {s : S U} {b : Nat} {f : FuncId} {args : List (A U)} {look : List Nat} (hp : plan E b o s = .call f args look) : soft o = false := by
  obtain ⟨c, g, caps, ho, hc, -⟩ := call_plan hp
  unfold soft
  rw [ho]
  obtain ⟨callee, cargs, ats⟩ := c
  simp only [] at hc
  subst hc
  rfl

theorem soft_yield {o : Oper} {s : S U} {b : Nat} {n f lk : Nat} {vals args : List (A U)} {look : List Nat} (hp : plan E b o s = .yield n f lk vals args look) : soft o = false := by
  obtain ⟨c, g, ho, hc, -⟩ := yield_plan hp
  unfold soft
  rw [ho]
  obtain ⟨callee, cargs, ats⟩ := c
  simp only [] at hc
  subst hc
  rfl

theorem DI.hard_step (ok : EnvOk2 E) (TS : TSound E T) (hd : ∀ o ∈ ops.toList, ∀ d, o.dst = some d → d < N) {i : Nat} {o : Oper} (D : DI E ops N w0 St0 O0 ι0 n0 pend ((i, o) :: r) acc done listed sc a w ι St) (hr : i ∈ Region.ready .any ops listed)
    (hw : Wants ops.toList o (puts pend sc)) (hc : clear ops.toList ((puts pend sc).nm i) (befs ops i) o (lookOf (plan E ((puts pend sc).nm i) o (puts pend sc))) (wrOf (plan E ((puts pend sc).nm i) o (puts pend sc))) acc = true)
    (hv : vop E T i o (puts pend sc) K) {next : Act → World → Prop} {Q : Exit → Act → World → Prop}
    (h : ∀ sc' a' w' ι' St', DI E ops N w0 St0 O0 ι0 n0 pend r acc (i :: done) (listed.setIfInBounds i true) sc' a' w' ι' St' → K (puts pend sc') → a'.defers = a.defers → next a' w') :
    wpOpIn (FR ro) 0 E.P ops Q i next a w := by
  obtain ⟨q1, q2, q3, q4⟩ := D.ready hr
  have hg := D.good
  cases hg with
  | cons g1 g2 g3 g4 g5 =>
  simp only [Array.getElem?_toList] at g3
  have hcs : ∀ q ∈ pend, apartT ops.toList q.o o = true ∧ (∀ n ∈ q.look, n ∉ wrOf (plan E ((puts pend sc).nm i) o (puts pend sc))) ∧ (∀ n ∈ q.wr.map (·.1), n ∉ lookOf (plan E ((puts pend sc).nm i) o (puts pend sc))) ∧ (∀ n ∈ q.look, n < (puts pend sc).nm i ∨ (puts pend sc).nm i + 100 ≤ n) :=
    fun q hq => (clear_spec hc _ (D.acc q hq)).resolve_left (q4 q hq)
  obtain ⟨-, -, f3, f4⟩ := front (E := E) (wr := []) (v := .none) (o := o) (look := lookOf (plan E ((puts pend sc).nm i) o (puts pend sc))) pend (fun q hq => ⟨(hcs q hq).1, fun n _ hn => by simp at hn, (hcs q hq).2.2.1⟩) D.prs
  have hne : plan E ((puts pend sc).nm i) o (puts pend sc) ≠ .bad := fun e => by unfold vop at hv; rw [e] at hv; exact hv
  have hpl := plan_agree (ops := ops.toList) hne (fun d hd => (f3 d hd).symm) (fun n hn => (f4 n hn).symm)
  have hw' : Wants ops.toList o sc := hw.agree (fun d hd => (f3 d hd).symm)
  have hm : o ∈ ops.toList := by rw [Array.mem_toList_iff]; exact Array.mem_of_getElem? g3
  have hdf : ∀ v, (a.put o.dst v).defers = a.defers := fun v => by cases o.dst <;> rfl
  have hnd := D.nod
  have hnd' : i ∉ pend.map (·.i) ∧ i ∉ r.map (·.1) := by
    rw [List.nodup_append] at hnd
    simp only [List.map_cons, List.nodup_cons] at hnd
    exact ⟨fun h => hnd.2.2 i h i (by simp) rfl, hnd.2.1.1⟩
  have hnm : (puts pend sc).nm i = sc.nm i := puts_nm _ _ _
  unfold wpOpIn
  rw [g3]
  simp only []
  rw [wants_region D.inv.rel hw']
  simp only [if_true]
  refine (vop_step ok TS D.inv.rel (fun m h1 h2 => D.fre i (.inr (by simp)) m (by rw [← hnm]; exact h1) (by rw [← hnm]; exact h2)) (hd o hm) hpl (fun n hn => f4 n hn) hv fun wr v u w' ι' St' hk hn hs => ?_)
  have hcl : ∀ q ∈ pend, Clr ops.toList q o (lookOf (plan E ((puts pend sc).nm i) o (puts pend sc))) (· ∈ wr.map (·.1)) := fun q hq => ⟨(hcs q hq).1, fun n h1 h2 => by
    obtain ⟨y, hy, rfl⟩ := List.mem_map.1 h2
    rcases hn y hy with h | h
    · exact (hcs q hq).2.1 _ h1 h
    · have := (hcs q hq).2.2.2 _ h1; omega, (hcs q hq).2.2.1⟩
  obtain ⟨e1, e2, -, -⟩ := front (E := E) (wr := wr) (v := v) (o := o) pend hcl D.prs
  have free : ∀ m, ι m = none → ¬ (sc.nm i ≤ m ∧ m < sc.nm i + 100) → ι' m = none := fun m h1 h2 => by
    cases hm : ι' m with
    | none => rfl
    | some z =>
      rcases hs.new m (by rw [hm]; simp) with h | h
      · exact absurd h1 h
      · rw [hnm] at h; exact absurd h h2
  rw [e1] at hk
  refine h _ _ w' ι' St' ⟨D.inv.step (Nat.le_trans D.inv.nbx (by simp only [S.nm, puts_nx]; exact Nat.le_add_right _ _)) hs, e2, D.clr, D.acc, D.pop, ?_, fun k hk => ?_, by simp [D.siz], g5, fun k hk => ?_, fun j hj e he => ?_, lcl_after D.lcl q3, fun k hk m h1 h2 => ?_, fun m hm => ?_, D.nx⟩ hk (hdf u)
  · refine hnd.sublist ?_
    simp only [List.map_cons]
    exact List.Sublist.append (List.Sublist.refl _) (List.sublist_cons_self _ _)
  · rw [lst_after D.siz hk, D.lst k hk]
    simp only [List.map_cons, List.mem_cons]
    constructor
    · rintro ⟨h | h | h, h'⟩
      · exact .inl h
      · exact absurd h h'
      · exact .inr h
    · rintro (h | h)
      · exact ⟨.inl h, fun e => hnd'.1 (e ▸ h)⟩
      · exact ⟨.inr (.inr h), fun e => hnd'.2 (e ▸ h)⟩
  · have := D.don k hk
    simp only [List.map_cons, List.mem_cons, not_or] at this ⊢
    rw [this]
    constructor
    · rintro (h | h)
      · rw [h]; exact hnd'.2
      · exact h.2
    · intro h
      by_cases e : k = i
      · exact .inl e
      · exact .inr ⟨e, h⟩
  · rcases List.mem_cons.1 hj with rfl | hj
    · have : edgesAt ops.toList j = edges o.after.toList := by unfold edgesAt; rw [Array.getElem?_toList, g3]
      rw [this] at he
      exact List.mem_cons_of_mem _ (g1 e he)
    · exact List.mem_cons_of_mem _ (D.dcl j hj e he)
  · have hki : k ≠ i := fun e => by subst e; rcases hk with h | h; exact hnd'.1 h; exact hnd'.2 h
    refine free m (D.fre k (hk.imp id fun h => by simp only [List.map_cons]; exact List.mem_cons_of_mem _ h) m h1 h2) (fun hh => ?_)
    simp only [S.nm] at hh
    simp only [S.nm, S.put] at h1 h2
    omega
  · refine free m (D.top m hm) (fun hh => ?_)
    simp only [S.nm] at hh
    simp only [S.nm, S.put] at hm
    omega

theorem vdraw_cons {ops : List Oper} {bef : List (List Nat)} {s : S U} {i : Nat} {o : Oper} (hv : vdraw E T ops bef ((i, o) :: r) acc s K) :
    (Wants ops o s ∧ vopD E T ops bef i o acc s (fun acc' s' => vdraw E T ops bef r acc' s' K)) ∨ (Wants' ops o s ∧ vskip ops bef i o acc s (fun acc' s' => vdraw E T ops bef r acc' s' K)) := by
  simp only [vdraw] at hv
  cases hg : o.guard with
  | none => rw [hg] at hv; exact .inl ⟨.inl hg, hv⟩
  | some jw =>
    obtain ⟨j, want⟩ := jw
    rw [hg] at hv
    simp only [] at hv
    cases hd : guardTmp ops o with
    | none => rw [hd] at hv; exact hv.elim
    | some d =>
      rw [hd] at hv
      simp only [] at hv
      cases hs : s.t d with
      | bool c =>
        rw [hs] at hv
        simp only [] at hv
        cases c <;> cases want <;> simp only [cond_true, cond_false, put_same hs] at hv
        · exact .inl ⟨.inr ⟨j, false, d, hg, hd, hs⟩, hv⟩
        · exact .inr ⟨⟨j, true, d, hg, hd, .inl hs⟩, hv⟩
        · exact .inr ⟨⟨j, false, d, hg, hd, .inl hs⟩, hv⟩
        · exact .inl ⟨.inr ⟨j, true, d, hg, hd, hs⟩, hv⟩
      | tup l =>
        cases l with
        | nil => rw [hs] at hv; exact .inr ⟨⟨j, want, d, hg, hd, .inr hs⟩, hv⟩
        | cons _ _ => rw [hs] at hv; exact hv.elim
      | _ => rw [hs] at hv; exact hv.elim

theorem DI.run (ok : EnvOk2 E) (TS : TSound E T) (hd : ∀ o ∈ ops.toList, ∀ d, o.dst = some d → d < N) (hst : stat ops.toList = true) {i : Nat} (hr : i ∈ Region.ready .any ops listed) {fuel : Nat} {next : Act → World → Prop} {Q : Exit → Act → World → Prop}
    (H : ∀ pend r acc done sc a' w' ι' St', DI E ops N w0 St0 O0 ι0 n0 pend r acc done (listed.setIfInBounds i true) sc a' w' ι' St' → vdraw E T ops.toList (befores ops.toList []) r acc (puts pend sc) K → pend.length + r.length = fuel → a'.defers = a.defers → next a' w') :
    ∀ (r : List (Nat × Oper)) (pend : List (Pn U)) (acc : List Ahead) (done : List Nat), DI E ops N w0 St0 O0 ι0 n0 pend r acc done listed sc a w ι St → vdraw E T ops.toList (befores ops.toList []) r acc (puts pend sc) K → pend.length + r.length = fuel + 1 →
      wpOpIn (FR ro) 0 E.P ops Q i next a w := by
  have inPend : ∀ (r : List (Nat × Oper)) (pend : List (Pn U)) (acc : List Ahead) (done : List Nat), DI E ops N w0 St0 O0 ι0 n0 pend r acc done listed sc a w ι St → vdraw E T ops.toList (befores ops.toList []) r acc (puts pend sc) K → pend.length + r.length = fuel + 1 →
      i ∈ pend.map (·.i) → wpOpIn (FR ro) 0 E.P ops Q i next a w := by
    intro r pend acc done D hv hl hi
    obtain ⟨p, hp, rfl⟩ := List.mem_map.1 hi
    obtain ⟨l1, l2, rfl⟩ := List.append_of_mem hp
    refine D.pend_step ok hd hr fun a' w' ι' St' D' he hdf => H (l1 ++ l2) r acc done _ a' w' ι' St' D' (by rw [he]; exact hv) ?_ hdf
    simp only [List.length_append, List.length_cons] at hl ⊢
    omega
  intro r
  induction r with
  | nil =>
    intro pend acc done D hv hl
    rcases (D.ready hr).2.1 with h | h
    · exact inPend [] pend acc done D hv hl h
    · simp at h
  | cons x r ih =>
    intro pend acc done D hv hl
    by_cases hip : i ∈ pend.map (·.i)
    · exact inPend _ pend acc done D hv hl hip
    have hir := (D.ready hr).2.1.resolve_left hip
    obtain ⟨j, o⟩ := x
    have hlen : ∀ p : Pn U, (pend ++ [p]).length + r.length = fuel + 1 := fun p => by
      simp only [List.length_append, List.length_cons, List.length_nil] at hl ⊢; omega
    rcases vdraw_cons hv with ⟨hw, hv⟩ | ⟨hw, hv⟩
    · unfold vopD at hv
      simp only [] at hv
      cases hc : clear ops.toList ((puts pend sc).nm j) (befOf (befores ops.toList []) j) o (lookOf (plan E ((puts pend sc).nm j) o (puts pend sc))) (wrOf (plan E ((puts pend sc).nm j) o (puts pend sc))) acc with
      | false => rw [hc] at hv; exact hv.elim
      | true =>
        rw [hc] at hv
        simp only [cond_true] at hv
        cases hs : soft o with
        | true =>
          rw [hs] at hv
          simp only [cond_true] at hv
          unfold vop at hv
          cases hpl : plan E ((puts pend sc).nm j) o (puts pend sc) with
          | bad => rw [hpl] at hv; exact hv.elim
          | call f args look => have := soft_call hpl; rw [hs] at this; simp at this
          | yield n f id vals args look => have := soft_yield hpl; rw [hs] at this; simp at this
          | any q rd neg => have := soft_any hpl; rw [hs] at this; simp at this
          | knot b' v0 =>
            rw [hpl] at hv hc
            simp only [] at hv
            cases hkb : knotBox 0 v0 with
            | none => rw [hkb] at hv; exact hv.elim
            | some y0 =>
              rw [hkb] at hv
              obtain ⟨g, hv⟩ := hv
              obtain ⟨y, hy⟩ := knotBox_get (g' := g) hkb
              rw [hy] at hv
              have D' := D.ahead ⟨j, o, [b'], [(b', .box y)], .ptr b' []⟩ rfl rfl ⟨fun z hz => List.mem_map_of_mem (f := (·.1)) hz, .inr ⟨hw, none, [], .inr ⟨rfl, rfl, b', v0, g, y, hpl, hy, rfl, rfl⟩, (fun q h => by cases h), rfl⟩⟩
                (fun q hq => (clear_spec hc q hq).imp id fun h => ⟨h.1, h.2.1, h.2.2.1⟩)
              exact ih _ _ _ D' (by rw [puts_append]; exact hv) (hlen _)
          | done pre rd wr v =>
            rw [hpl] at hv hc
            have hk : (∀ q, pre = some q → q) ∧ vdraw E T ops.toList (befores ops.toList []) r (acc ++ [⟨j, o, rd ++ wr.map (·.1), wr.map (·.1)⟩]) ((puts pend sc).put wr o.dst v) K := by
              cases pre with
              | none => exact ⟨fun p hp => by simp at hp, hv⟩
              | some q => exact ⟨fun p hp => by obtain rfl := Option.some.inj hp; exact hv.1, hv.2⟩
            have D' := D.ahead ⟨j, o, rd ++ wr.map (·.1), wr, v⟩ rfl rfl ⟨fun y hy => List.mem_append_right _ (List.mem_map_of_mem hy), .inr ⟨hw, pre, rd, .inl hpl, hk.1, rfl⟩⟩
              (fun q hq => (clear_spec hc q hq).imp id fun h => ⟨h.1, h.2.1, h.2.2.1⟩)
            exact ih _ _ _ D' (by rw [puts_append]; exact hk.2) (hlen _)
        | false =>
          rw [hs] at hv
          simp only [cond_false] at hv
          by_cases hji : j = i
          · subst hji
            refine D.hard_step ok TS hd hr hw hc hv fun sc' a' w' ι' St' D' hk hdf => H pend r acc _ sc' a' w' ι' St' D' hk ?_ hdf
            simp only [List.length_cons] at hl; omega
          · exfalso
            have hg := D.good
            cases hg with
            | cons g1 g2 g3 g4 g5 =>
            obtain ⟨q1, q2, q3, q4⟩ := D.ready hr
            have hnd : i ∉ done := fun h => (D.don i q1).1 h hir
            have hed : ∀ e ∈ edgesAt ops.toList i, e ∈ done := fun e he => by
              have h1 := q3 e he
              have hlt : e < ops.size := by
                rw [← D.siz]
                rcases Nat.lt_or_ge e listed.size with h | h
                · exact h
                · rw [Array.getD_eq_getD_getElem?, Array.getElem?_eq_none h] at h1; simp at h1
              refine (D.don e hlt).2 fun h => ?_
              have := (D.lst e hlt).2 (.inr h)
              rw [listed_both D.siz hlt, h1] at this
              simp at this
            obtain ⟨oi, hoi⟩ : ∃ oi, ops.toList[i]? = some oi := ⟨ops[i], by rw [Array.getElem?_toList]; simp [q1]⟩
            have hei : edgesAt ops.toList i = edges oi.after.toList := by unfold edgesAt; rw [hoi]
            have hsi : soft oi = false := by
              cases h : soft oi with
              | false => rfl
              | true => exact absurd (by rw [← hei]; exact hed) (g4 hs i oi hoi h hnd)
            obtain ⟨-, st⟩ := stat_spec hst
            rcases Nat.lt_trichotomy j i with h | h | h
            · have := bef_closed (D := (· ∈ done)) D.dcl i hed j (st i j oi o hoi g3 h hs hsi)
              exact g2 this
            · exact hji h
            · have he : ∀ e ∈ edgesAt ops.toList j, e ∈ done := fun e he => g1 e (by have : edgesAt ops.toList j = edges o.after.toList := by { unfold edgesAt; rw [g3] }
                                                                                     rw [this] at he; exact he)
              have := bef_closed (D := (· ∈ done)) D.dcl j he i (st j i o oi g3 hoi h hsi hs)
              exact hnd this
    · unfold vskip at hv
      cases hc : clear ops.toList ((puts pend sc).nm j) (befOf (befores ops.toList []) j) o [] [] acc with
      | false => rw [hc] at hv; exact hv.elim
      | true =>
        rw [hc] at hv
        simp only [cond_true] at hv
        have D' := D.ahead ⟨j, o, [], [], .tup []⟩ rfl rfl ⟨(by intro y hy; cases hy), .inl ⟨rfl, rfl, hw⟩⟩ (fun q hq => (clear_spec hc q hq).imp id fun h => ⟨h.1, h.2.1, h.2.2.1⟩)
        exact ih _ _ _ D' (by rw [puts_append]; exact hv) (hlen _)

theorem DI.sound (ok : EnvOk2 E) (TS : TSound E T) (hd : ∀ o ∈ ops.toList, ∀ d, o.dst = some d → d < N) (hst : stat ops.toList = true) {d0 : List Deferred} {Q : Exit → Act → World → Prop}
    (H : ∀ s' a' w' ι' St', K s' → Inv E N w0 St0 O0 ι0 s' a'.tmps w' ι' St' → (∀ m, s'.nm ops.size ≤ m → ι' m = none) → s'.nx = n0 → a'.defers = d0 → Q .normal a' w') :
    ∀ (fuel : Nat) (pend : List (Pn U)) (r : List (Nat × Oper)) (acc : List Ahead) (done : List Nat) (listed : Array Bool) (sc : S U) (a : Act) (w : World) (ι : Nat → Option Value) (St : Ck U → Nat → Prop),
      pend.length + r.length = fuel → DI E ops N w0 St0 O0 ι0 n0 pend r acc done listed sc a w ι St → vdraw E T ops.toList (befores ops.toList []) r acc (puts pend sc) K → a.defers = d0 → wpAnyIn (FR ro) 0 E.P .any ops Q fuel listed a w := by
  intro fuel
  induction fuel with
  | zero =>
    intro pend r acc done listed sc a w ι St hl D hv hdf
    have hp : pend = [] := List.eq_nil_of_length_eq_zero (by omega)
    have hr : r = [] := List.eq_nil_of_length_eq_zero (by omega)
    subst hp hr
    refine ⟨List.eq_nil_iff_forall_not_mem.2 fun i hi => ?_, H sc a w ι St hv D.inv D.top D.nx hdf⟩
    rcases (D.ready hi).2.1 with h | h <;> simp at h
  | succ fuel ih =>
    intro pend r acc done listed sc a w ι St hl D hv hdf
    refine ⟨fun hnil => ?_, fun i hi => DI.run ok TS hd hst hi (fun pend r acc done sc a' w' ι' St' D' hv' hl' hdf' => ih pend r acc done _ sc a' w' ι' St' hl' D' hv' (hdf'.trans hdf)) r pend acc done D hv hl⟩
    exfalso
    have all : ∀ i, i < ops.size → listed.getD i true = true := by
      intro i
      induction i using Nat.strongRecOn with
      | _ i ihi =>
        intro hlt
        cases h : listed.getD i true with
        | true => rfl
        | false =>
          have : i ∈ Region.ready .any ops listed := by
            refine mem_ready.2 ⟨h, ops[i], by simp [hlt], fun e he hb => ?_⟩
            have hlt' := (stat_spec hst).1 i ops[i] (by rw [Array.getElem?_toList]; simp [hlt]) e (by simpa using he) hb
            have := ihi e.on hlt' (by omega)
            rwa [listed_both D.siz (by omega)] at this
          rw [hnil] at this; cases this
    have ex : ∃ i, i < ops.size ∧ (i ∈ pend.map (·.i) ∨ i ∈ r.map (·.1)) := by
      cases pend with
      | cons p l => exact ⟨p.i, D.lt (by simp), .inl (by simp)⟩
      | nil =>
        cases r with
        | nil => simp at hl
        | cons y r =>
          have hg := D.good
          cases hg with
          | cons g1 g2 g3 g4 g5 => rw [Array.getElem?_toList] at g3; exact ⟨y.1, (Array.getElem?_eq_some_iff.1 g3).1, .inr (by simp)⟩
    obtain ⟨i, h1, h2⟩ := ex
    have h3 := (D.lst i h1).2 h2
    rw [all i h1] at h3
    simp at h3

theorem Good.names {ops : List Oper} {done : List Nat} {r : List (Nat × Oper)} (h : Good ops done r) : (r.map (·.1)).Nodup ∧ ∀ j ∈ r.map (·.1), j < ops.length ∧ j ∉ done := by
  induction h with
  | nil => simp
  | @cons done x r g1 g2 g3 g4 g5 ih =>
    obtain ⟨i1, i2⟩ := ih
    simp only [List.map_cons, List.nodup_cons, List.mem_cons, forall_eq_or_imp]
    refine ⟨⟨fun h => (i2 _ h).2 (by simp), i1⟩, ⟨(List.getElem?_eq_some_iff.1 g3).1, g2⟩, fun j hj => ⟨(i2 j hj).1, fun h => (i2 j hj).2 (by simp [h])⟩⟩

theorem List.Nodup.length_le_of_subset_range : ∀ {n : Nat} {l : List Nat}, l.Nodup → (∀ j ∈ l, j < n) → l.length ≤ n := by
  intro n
  induction n with
  | zero => intro l _ h; cases l with | nil => simp | cons x l => exact absurd (h x (by simp)) (by omega)
  | succ n ih =>
    intro l hn hl
    by_cases hm : n ∈ l
    · have := ih (l := l.erase n) (hn.erase n) (fun j hj => by
        have h4 := (List.Nodup.mem_erase_iff hn).1 hj
        have := hl j h4.2
        have := h4.1
        omega)
      rw [List.length_erase_of_mem hm] at this
      omega
    · have := ih hn (fun j hj => by
        have := hl j hj
        have : j ≠ n := fun e => hm (e ▸ hj)
        omega)
      omega

theorem full_of_nodup : ∀ {n : Nat} {l : List Nat}, l.Nodup → (∀ j ∈ l, j < n) → l.length = n → ∀ i, i < n → i ∈ l := by
  intro n
  induction n with
  | zero => intro l _ _ _ i hi; omega
  | succ n ih =>
    intro l hn hl hlen i hi
    have hmem : n ∈ l := by
      refine Classical.byContradiction fun hnot => ?_
      have hlt : ∀ j ∈ l, j < n := fun j hj => by
        have := hl j hj
        have : j ≠ n := fun e => hnot (e ▸ hj)
        omega
      have h2 : l.length ≤ n := by
        have := List.Nodup.length_le_of_subset_range hn hlt
        exact this
      omega
    by_cases e : i = n
    · rw [e]; exact hmem
    · have h3 := ih (l := l.erase n) (hn.erase n) (fun j hj => by
        have h4 := (List.Nodup.mem_erase_iff hn).1 hj
        have := hl j h4.2
        have := h4.1
        omega) (by rw [List.length_erase_of_mem hmem]; omega) i (by omega)
      exact List.mem_of_mem_erase h3

/-- a region -/
theorem vregion_sound (ok : EnvOk2 E) (TS : TSound E T) (hm : E.P.follows .mixedOrders = true) {id : Nat} {draw : Bool} (hd : ∀ o ∈ ops.toList, ∀ d, o.dst = some d → d < N) (hst : draw = true → stat ops.toList = true) {s : S U}
    (I : Inv E N w0 St0 O0 ι0 s a.tmps w ι St) (hf : ∀ m, s.nx ≤ m → ι m = none) (hv : vregion E T ops draw s K) {Q : Exit → Act → World → Prop}
    (H : ∀ s' a' w' ι' St', K s' → Inv E N w0 St0 O0 ι0 s' a'.tmps w' ι' St' → (∀ m, s'.nx ≤ m → ι' m = none) → a'.defers = a.defers → Q .normal a' w') : (Code.region id ops draw).wpIn (FR ro) 0 E.P Q a w := by
  have fin : ∀ s' (a' : Act) w' ι' St', K { s' with nx := s.nm ops.size } → Inv E N w0 St0 O0 ι0 s' a'.tmps w' ι' St' → (∀ m, s'.nm ops.size ≤ m → ι' m = none) → s'.nx = s.nx → a'.defers = a.defers → Q .normal a' w' := by
    intro s' a' w' ι' St' hk hI hf' hn hdf
    refine H _ a' w' ι' St' hk ⟨⟨hI.rel.tsz, hI.rel.tmp, hI.rel.obj, hI.rel.dis, hI.rel.stb, hI.rel.apt, hI.rel.sup⟩, hI.fr, hI.own, hI.gr, hI.old, Nat.le_trans hI.nbx (by rw [hn]; exact Nat.le_add_right _ _), hI.nbe, hI.hid, hI.hnd, hI.kn⟩ (fun m hm => hf' m ?_) hdf
    simp only [S.nm] at hm ⊢
    omega
  unfold vregion at hv
  simp only [] at hv
  cases draw with
  | false =>
    simp only [cond_false] at hv
    refine wpIn_region ?_
    rw [List.range_eq_range']
    have := vops_sound (ro := ro) ok TS (ops := ops) (Q := Q) ops.toList 0 s a w ι St (fun s' => K { s' with nx := s.nm ops.toList.length }) (fun k o h => by rw [Nat.zero_add, ← Array.getElem?_toList]; exact h) hd I (fun m hm => hf m (by simpa [S.nm] using hm)) hv
      (fun s' a' w' ι' St' hk hI hf' hn hdf => fin s' a' w' ι' St' (by simpa using hk) hI (by simpa using hf') hn hdf)
    simpa using this
  | true =>
    simp only [cond_true] at hv
    cases hb : Nat.beq (sched (enum 0 ops.toList) ops.toList.length []).length ops.toList.length with
    | false => rw [hb] at hv; exact hv.elim
    | true =>
      rw [hb] at hv
      simp only [cond_true] at hv
      have hlen := Nat.eq_of_beq_eq_true hb
      have hst := hst rfl
      have hg : Good ops.toList [] (sched (enum 0 ops.toList) ops.toList.length []) := sched_good _ _
      obtain ⟨g1, g2⟩ := hg.names
      refine wpIn_region_any hm (DI.sound (K := fun s' => K { s' with nx := s.nm ops.toList.length }) (n0 := s.nx) (d0 := a.defers) ok TS hd hst (fun s' a' w' ι' St' hk hI hf' hn hdf => fin s' a' w' ι' St' (by simpa using hk) hI hf' hn hdf) ops.size [] _ [] [] _ s a _ ι St (by simpa using hlen) ?_ hv rfl)
      have hall : ∀ i, i < ops.size → i ∈ (sched (enum 0 ops.toList) ops.toList.length []).map (·.1) := by
        intro i hi
        refine full_of_nodup g1 (fun j hj => (g2 j hj).1) ?_ i hi
        simpa using hlen
      exact ⟨I.drew, trivial, .nil, fun q hq => (by cases hq), fun q hq => (by cases hq), by simpa using g1, fun i hi => ⟨fun _ => .inr (hall i hi), fun _ => by simp [hi]⟩, by simp, hg, fun i hi => ⟨fun h => by (cases h), fun h => absurd (hall i hi) h⟩, fun j hj => (by cases hj),
        fun j hj => (by
          exfalso
          rcases Nat.lt_or_ge j ops.size with h | h
          · simp [h] at hj
          · rw [Array.getD_eq_getD_getElem?, Array.getElem?_eq_none (by simpa using h)] at hj; simp at hj), fun i _ m h1 _ => hf m (by simp only [S.nm] at h1; omega), fun m hm => hf m (by simp only [S.nm] at hm; omega), rfl⟩
end
end Go.V

/- V: a state is laid out anew, on the way through a body. -/
set_option linter.unusedVariables false
set_option linter.unusedSimpArgs false
namespace Go.V
variable {U : Nat → Type}
section
variable {E : Env U} {w : World} {St : Ck U → Nat → Prop} {N : Nat} {tm : Array Value} {w0 : World} {St0 : Ck U → Nat → Prop} {O0 : Nat → Prop} {ι0 : Ini}

theorem addN_prefix (l : List Nat) (n : Nat) : l <+: addN l n := by
  unfold addN
  cases memN n l
  · exact List.prefix_append _ _
  · exact List.prefix_rfl
theorem addNs_prefix : ∀ (r l : List Nat), l <+: addNs l r
  | [], l => List.prefix_rfl
  | n :: r, l => (addN_prefix l n).trans (addNs_prefix r _)
theorem reach_prefix {nm : A U → List Nat} {h : Nat → AObj U} : ∀ (n j : Nat) (l : List Nat), l <+: reach nm h n j l
  | 0, j, l => List.prefix_rfl
  | n + 1, j, l => by
    simp only [reach]
    split
    · exact List.prefix_rfl
    · exact (addNs_prefix _ l).trans (reach_prefix n (j + 1) _)
theorem layG_prefix {h : Nat → AObj U} {n0 : Nat} {first : List Nat} {vs : List (A U)} {x : Laid U} (hx : layG h n0 first vs = some x) : first <+: x.L := by
  unfold layG at hx
  simp only [] at hx
  revert hx
  simp only [Bool.cond_eq_ite]
  split
  · intro hx; cases hx; exact (addNs_prefix _ _).trans (reach_prefix _ _ _)
  · intro hx; cases hx
theorem upto_length : ∀ n, (upto n).length = n
  | 0 => rfl
  | n + 1 => by simp [upto, upto_length n]
theorem upto_get : ∀ (n k : Nat), k < n → (upto n)[k]? = some k
  | 0, k, h => by omega
  | n + 1, k, h => by
    simp only [upto]
    by_cases hk : k < n
    · rw [List.getElem?_append_left (by rw [upto_length]; exact hk)]; exact upto_get n k hk
    · obtain rfl : k = n := by omega
      rw [List.getElem?_append_right (by rw [upto_length]; exact Nat.le_refl _), upto_length]; simp
theorem layG_at {h : Nat → AObj U} {n0 nb : Nat} {vs : List (A U)} {x : Laid U} (hx : layG h n0 (upto nb) vs = some x) : nb ≤ x.L.length ∧ ∀ k, k < nb → x.L[k]? = some k := by
  obtain ⟨r, e⟩ := layG_prefix hx
  rw [← e]
  refine ⟨by rw [List.length_append, upto_length]; omega, fun k hk => ?_⟩
  rw [List.getElem?_append_left (by rw [upto_length]; exact hk)]
  exact upto_get nb k hk

theorem holds_live {ι : Nat → Option Value} {s : S U} (R : Rel E s N tm w ι St) : ∀ live : List Nat, Holds E w St ι (live.map fun d => untup (s.t d)) (live.map fun d => tm.getD d undef)
  | [] => trivial
  | d :: live => by
    refine ⟨?_, holds_live R live⟩
    have := R.tmp d
    show RT E w St ι (untup (s.t d)) (tm.getD d undef)
    revert this
    cases s.t d <;> first | exact id | exact fun _ => trivial


/-- the names that came first stand for what they stood for -/
theorem LaidOk.old {s : S U} {ι ι2 : Nat → Option Value} {us : List Value} {x : Laid U} {vs : List (A U)} (I : Inv E N w0 St0 O0 ι0 s tm w ι St) (L : LaidOk E s N tm w ι St s.nx us x ι2) (hx : layG s.h s.nx (upto s.nb) vs = some x) : ∀ n, n < s.nb → reι x.L ι2 n = ι0.2.1 n := by
  intro n hn
  unfold reι
  rw [(layG_at hx).2 n hn, ← I.old n hn]
  simp only []
  cases hι : ι n with
  | some u => exact L.nm n u hι
  | none =>
    cases hι2 : ι2 n with
    | none => rfl
    | some u =>
      rcases L.new n (by rw [hι2]; simp) with h | h
      · exact absurd hι h
      · have := I.nbx; omega

theorem lay_sound (ok : EnvOk2 E) {s : S U} {ι : Nat → Option Value} (I : Inv E N w0 St0 O0 ι0 s tm w ι St) (hf : ∀ m, s.nx ≤ m → ι m = none) {live : List Nat} {x : List (A U) × List (AObj U)} (hl : lay s live = some x) :
    ∃ ι', Inv E N w0 St0 O0 ι0 (S.ofLay live s.nb x.1 x.2) tm w ι' St ∧ ∀ m, x.2.length ≤ m → ι' m = none := by
  unfold lay at hl
  cases hx : layG s.h s.nx (upto s.nb) (live.map fun d => untup (s.t d)) with
  | none => rw [hx] at hl; cases hl
  | some y =>
    rw [hx] at hl
    simp only [Option.some.injEq] at hl
    subst hl
    have ht : ∀ a ∈ (live.map fun d => untup (s.t d)), noTup a = true := fun a ha => by
      obtain ⟨d, -, rfl⟩ := List.mem_map.1 ha
      exact noTup_untup _
    obtain ⟨ι2, L⟩ := layG_ok ok I.rel hx (holds_live I.rel live) ht (fun m h _ => hf m h)
    have ho := L.old I hx
    refine ⟨reι y.L ι2, ⟨⟨I.rel.tsz, fun d => L.vals.pairUp d, L.heap.obj, L.heap.dis, L.heap.stb, L.heap.apt, L.heap.sup⟩, I.fr, fun B hB => I.own B (L.own B (L.sub B hB)), I.gr, ho, ?_, I.nbe, fun x hx => (fun h => ⟨h.1, fun ho => h.2.1 (L.own _ (L.sub _ ho)), h.2.2⟩) (I.hid x hx), I.hnd, I.kn⟩, fun m hm => L.out m (by rw [← L.len]; exact hm)⟩
    show s.nb ≤ y.objs.length
    rw [L.len]
    exact (layG_at hx).1
end
end Go.V

/- V: the end of a body. -/
set_option linter.unusedVariables false
set_option linter.unusedSimpArgs false
namespace Go.V
variable {U : Nat → Type}

inductive AllR (P : Program) (tm : Array Value) (w : World) : List ResultVar → List Value → Prop
  | nil : AllR P tm w [] []
  | tmp {d l vs} : AllR P tm w l vs → AllR P tm w (.tmp d :: l) (tm.getD d undef :: vs)
  | cell {d t l vs v} : ((do loadVar t (← asAddr (tm.getD d undef)) : Sem Value).run P w = .ok v w) → AllR P tm w l vs → AllR P tm w (.cell d t :: l) (v :: vs)

theorem AllR.length {P : Program} {tm : Array Value} {w : World} {l : List ResultVar} {vs : List Value} (h : AllR P tm w l vs) : vs.length = l.length := by
  induction h with
  | nil => rfl
  | tmp _ ih => simp [ih]
  | cell _ _ ih => simp [ih]

def oneV : List Value → Value
  | [v] => v
  | vs => .tuple vs.toArray

theorem results_run {P : Program} {tm : Array Value} {w : World} {fn : Func} {vs : List Value} (h : AllR P tm w fn.results.toList vs) :
    (results fn tm).run P w = .ok (oneV vs) w := by
  have key : ∀ {l : List ResultVar} {vs : List Value}, AllR P tm w l vs → (l.mapM fun (x : ResultVar) => (match x with
      | .tmp t => pure (tm.getD t undef)
      | .cell a t => do loadVar t (← asAddr (tm.getD a undef)) : Sem Value)).run P w = .ok vs w := by
    intro l vs h
    induction h with
    | nil => simp
    | tmp _ ih => simp only [List.mapM_cons, Sem.run_bind, Sem.run_pure, Result.andThen_ok, ih]
    | cell h1 _ ih => simp only [List.mapM_cons, Sem.run_bind, Sem.run_pure, Result.andThen_ok, ih] at h1 ⊢; rw [h1]; simp only [Result.andThen_ok, ih]
  unfold results
  rw [Array.mapM_eq_mapM_toList]
  simp only [Sem.run_bind, Sem.run_map, Sem.run_pure]
  refine (congrArg (fun r => Result.andThen (Result.andThen r (fun (a : List Value) w' => Result.ok a.toArray w')) (fun (a : Array Value) w' => Result.ok (if h : a.size = 1 then a[0] else Value.tuple a) w')) (key h)).trans ?_
  clear h
  match vs with
  | [] => rfl
  | [v] => rfl
  | v :: u :: l => rfl

section
variable {E : Env U} {w : World} {St : Ck U → Nat → Prop} {ι : Nat → Option Value} {s : S U} {N : Nat} {tm : Array Value}

theorem asAddr_run (P : Program) (x : Addr) : (asAddr (.pointer (some x))).run P w = .ok x w := rfl

theorem loadVar_of (ok : EnvOk2 E) {t : TypeId} {v : A U} {B off : Nat} {ds : List Value} (hf : fits E t v = true) (h : RC E w St ι [v] ds []) (hr : w.rangeAt B off ds) :
    ∃ x, (loadVar t ⟨B, off, .none⟩).run E.P w = .ok x w ∧ RV E w St ι v x := by
  obtain ⟨x, h1, h2⟩ := load_run ok hf h hr
  refine ⟨x, ?_, h2⟩
  simpa [Instr.loadAt, Instr.sureAddr] using h1

theorem res_run (ok : EnvOk2 E) (R : Rel E s N tm w ι St) : ∀ (res : List ResultVar), (∀ a ∈ resV E s res, a ≠ .none) → ∃ vs, AllR E.P tm w res vs ∧ Holds E w St ι (resV E s res) vs
  | [], h => ⟨[], .nil, trivial⟩
  | .tmp d :: l, h => by
    simp only [resV, List.mem_cons, forall_eq_or_imp] at h
    obtain ⟨vs, h1, h2⟩ := res_run ok R l h.2
    exact ⟨_, .tmp h1, R.tmp d, h2⟩
  | .cell d t :: l, h => by
    simp only [resV, List.mem_cons, forall_eq_or_imp] at h ⊢
    obtain ⟨vs, h1, h2⟩ := res_run ok R l h.2
    have hd := R.tmp d
    cases hs : s.t d with
    | ptr n p =>
      rw [hs] at h hd
      simp only [] at h ⊢
      cases hf : fits E t (getO E (s.h n) p) with
      | false => rw [hf] at h; exact absurd rfl h.1
      | true =>
        obtain ⟨u, B, off, r1, r2, r3, r4⟩ := RV.ptr_inv hd
        obtain ⟨ds, q1, q2⟩ := getO_at ok.toEnvOk R r1 r2 r3 (fits_iff hf).1
        obtain ⟨x, e1, e2⟩ := loadVar_of ok hf q1 q2
        refine ⟨x :: vs, .cell ?_ h1, RT.of_rv e2, h2⟩
        rw [r4]
        simp only [Sem.run_bind, asAddr_run, Result.andThen_ok, e1]
    | _ => rw [hs] at h; exact absurd rfl h.1

-- what goes out
theorem countN_append (n : Nat) (l m : List Nat) : countN n (l ++ m) = countN n l + countN n m := by
  induction l with
  | nil => simp [countN]
  | cons x l ih => simp only [List.cons_append, countN, ih]; cases Nat.beq x n <;> simp <;> omega
theorem countN_pos {n : Nat} : ∀ {l : List Nat}, n ∈ l → 1 ≤ countN n l
  | [], h => by cases h
  | x :: l, h => by
    simp only [countN]
    cases hb : Nat.beq x n with
    | true => simp
    | false =>
      rcases List.mem_cons.1 h with rfl | h
      · rw [Nat.beq_refl] at hb; simp at hb
      · simpa using countN_pos h

structure Out (E : Env U) (s : S U) (ι : Nat → Option Value) (w : World) (St' : Ck U → Nat → Prop) (cnt ns : List Nat) (bs : List Nat) : Prop where
  nod : bs.Nodup
  own : ∀ B ∈ bs, ∃ m ∈ ns, isLst (s.h m) = true ∧ countN m cnt = 1 ∧ blkO (ι m) = some B

theorem Out.nil {St' : Ck U → Nat → Prop} {cnt ns : List Nat} : Out E s ι w St' cnt ns [] := ⟨.nil, fun B h => by cases h⟩

theorem lst_live {o : AObj U} (h : isLst o = true) : isLive o = true := by cases o <;> first | rfl | (simp [isLst] at h; done)

theorem Out.append {St' : Ck U → Nat → Prop} {cnt n1 n2 b1 b2 : List Nat} (R : Rel E s N tm w ι St) (h1 : Out E s ι w St' cnt n1 b1) (h2 : Out E s ι w St' cnt n2 b2) (hc : ∀ m, countN m (n1 ++ n2) ≤ countN m cnt) :
    Out E s ι w St' cnt (n1 ++ n2) (b1 ++ b2) := by
  refine ⟨List.nodup_append.2 ⟨h1.nod, h2.nod, fun B hB B' hB' e => ?_⟩, fun B hB => ?_⟩
  · subst e
    obtain ⟨m, m1, m2, m3, m4⟩ := h1.own B hB
    obtain ⟨k, k1, k2, k3, k4⟩ := h2.own B hB'
    have := R.dis m k B (lst_live m2) (lst_live k2) m4 k4
    subst this
    have hm := hc m
    rw [countN_append, m3] at hm
    have := countN_pos m1
    have := countN_pos k1
    omega
  · rcases List.mem_append.1 hB with hB | hB
    · obtain ⟨m, m1, m2⟩ := h1.own B hB; exact ⟨m, List.mem_append_left _ m1, m2⟩
    · obtain ⟨m, m1, m2⟩ := h2.own B hB; exact ⟨m, List.mem_append_right _ m1, m2⟩

mutual
theorem outA_ok (ok : EnvOk2 E) (R : Rel E s N tm w ι St) {St' : Ck U → Nat → Prop} (hS : ∀ g B, St g B → St' g B) (cnt : List Nat) (hz : ∀ m c l, s.h m = .lst c l → m ∈ cnt → countN m cnt ≠ 1 → ∀ B, blkO (ι m) = some B → St' (.on false) B) :
    ∀ (q : A U) {cs : List Value}, RC E w St ι [q] cs [] → hole (outA s.h [] cnt q) = false → ptrs q = [] → (∀ m ∈ owns q, m ∈ cnt) → (∀ m, countN m (owns q) ≤ countN m cnt) →
    ∃ bs, RC E w St' noNm [outA s.h [] cnt q] cs bs ∧ isAgg (outA s.h [] cnt q) = isAgg q ∧ size E.sz (outA s.h [] cnt q) = size E.sz q ∧ Out E s ι w St' cnt (owns q) bs
  | .own m, cs, hc, hh, hp, hm, hn => by
    obtain ⟨v, rfl, hv⟩ := hc.own_inv
    have h0 := R.obj m
    cases hs : s.h m with
    | lst c l =>
      rw [hs] at h0
      simp only [outA, hs]
      cases hb : Nat.beq (countN m cnt) 1 with
      | true =>
        simp only [cond_true]
        rcases h0 with ⟨⟨a0, h1⟩, h2⟩ | ⟨B, off, cap, ds, h1, h2, h3, h4, h5, h6⟩
        · rw [hv] at h1
          obtain rfl := Option.some.inj h1
          subst h2
          exact ⟨[], .uslE .nil, rfl, rfl, .nil⟩
        · rw [hv] at h1
          obtain rfl := Option.some.inj h1
          refine ⟨[B], .usl (h2.encs ok.toEnvOk fun B h => hS _ _ h) h3 h4 h5 h6 .nil, rfl, rfl, ⟨by simp, fun B' hB' => ?_⟩⟩
          simp only [List.mem_cons, List.not_mem_nil, or_false] at hB'
          subst hB'
          exact ⟨m, by simp [owns], by rw [hs]; rfl, Nat.eq_of_beq_eq_true hb, by rw [hv]; rfl⟩
      | false =>
        simp only [cond_false]
        have hne : countN m cnt ≠ 1 := fun e => by rw [e] at hb; simp at hb
        rcases h0 with ⟨⟨a0, h1⟩, h2⟩ | ⟨B, off, cap, ds, h1, h2, h3, h4, h5, h6⟩
        · rw [hv] at h1
          obtain rfl := Option.some.inj h1
          subst h2
          exact ⟨[], .roE .nil, rfl, rfl, .nil⟩
        · rw [hv] at h1
          obtain rfl := Option.some.inj h1
          exact ⟨[], .ro (h2.encs ok.toEnvOk fun B h => hS _ _ h) h3 (hz m c l hs (hm m (by simp [owns])) hne B (by rw [hv]; rfl)) h5 .nil, rfl, rfl, .nil⟩
    | fz c l =>
      rw [hs] at h0
      simp only [outA, hs]
      obtain ⟨v', h1, h2⟩ := h0
      rw [hv] at h1
      obtain rfl := Option.some.inj h1
      refine ⟨[], ?_, rfl, rfl, .nil⟩
      cases h2 with
      | roE _ => exact .roE .nil
      | ro q1 q2 q3 q4 _ => exact .ro (q1.encs ok.toEnvOk fun B h => hS _ _ h) q2 (hS _ _ q3) q4 .nil
    | dead => simp [outA, hs, hole] at hh
    | lp lf lid live vals j => simp [outA, hs, hole] at hh
    | box q => simp [outA, hs, hole] at hh
  | .agg l, cs, hc, hh, hp, hm, hn => by
    simp only [outA]
    obtain ⟨bs, h1, h2, h3⟩ := outAs_ok ok R hS cnt hz l hc.agg_inv (by simpa [outA, hole] using hh) (by simpa [ptrs] using hp) (by simpa [owns] using hm) (by simpa [owns] using hn)
    exact ⟨bs, by simpa using RC.agg h1 .nil, rfl, by simp only [size]; exact sizes_of h2, by simpa [owns] using h3⟩
  | .clo f l, cs, hc, hh, hp, hm, hn => by
    simp only [outA] at hh ⊢
    cases hb : (ownss l).isEmpty with
    | false => rw [hb] at hh; simp [hole] at hh
    | true =>
      rw [hb] at hh
      simp only [cond_true] at hh ⊢
      have hc' : ∃ vs : Array Value, cs = [.func (.func f) #[] vs] ∧ RC E w St ι l ((vs.toList.map (·.cells.toList)).flatten) [] ∧ vs.toList.map (fun v => (v.cells.size, isAggV v)) = l.map (fun a => (size E.sz a, isAgg a)) := by
        cases hc with
        | clo h1 h2 h3 => cases h3; exact ⟨_, rfl, h1, h2⟩
      obtain ⟨vs, rfl, h3, h4⟩ := hc'
      obtain ⟨bs, h1, h2, h5⟩ := outAs_ok ok R hS cnt hz l h3 (by simpa [hole] using hh) (by simpa [ptrs] using hp) (by simpa [owns] using hm) (by simpa [owns] using hn)
      have hbs : bs = [] := by
        cases bs with
        | nil => rfl
        | cons B bs =>
          obtain ⟨m, hm, -⟩ := h5.own B (by simp)
          rw [List.isEmpty_iff.1 hb] at hm; cases hm
      subst hbs
      exact ⟨[], .clo h1 (h4.trans h2.symm) .nil, rfl, rfl, .nil⟩
  | .nils c, cs, hc, hh, hp, hm, hn => by
    cases hc; rename_i hn; cases hn
    exact ⟨[], .uslE .nil, rfl, rfl, .nil⟩
  | .none, cs, hc, hh, hp, hm, hn => by cases hc
  | .tup l, cs, hc, hh, hp, hm, hn => by cases hc
  | .usl c l, cs, hc, hh, hp, hm, hn => by simp [outA, hole] at hh
  | .bsl .., cs, hc, hh, hp, hm, hn => by simp [outA, hole] at hh
  | .sub .., cs, hc, hh, hp, hm, hn => by simp [outA, hole] at hh
  | .ptr .., cs, hc, hh, hp, hm, hn => by simp [ptrs] at hp
  | .yld .., cs, hc, hh, hp, hm, hn => by simp [ptrs] at hp
  | .tr c9 x9 p9, cs, hc, hh, hp, hm, hn => ⟨[], by cases hc with | tr h1 hn => cases hn; exact .tr (h1.mono hS) .nil, rfl, rfl, .nil⟩
  | .gh g9, cs, hc, hh, hp, hm, hn => ⟨[], by cases hc; rename_i hn; cases hn; exact .gh .nil, rfl, rfl, .nil⟩
  | .int k n, cs, hc, hh, hp, hm, hn => ⟨[], by cases hc; rename_i hn; cases hn; exact .int .nil, rfl, rfl, .nil⟩
  | .bool k, cs, hc, hh, hp, hm, hn => ⟨[], by cases hc; rename_i hn; cases hn; exact .bool .nil, rfl, rfl, .nil⟩
  | .str k, cs, hc, hh, hp, hm, hn => ⟨[], by cases hc; rename_i hn; cases hn; exact .str .nil, rfl, rfl, .nil⟩
  | .nilp, cs, hc, hh, hp, hm, hn => ⟨[], by cases hc; rename_i hn; cases hn; exact .nilp .nil, rfl, rfl, .nil⟩
  | .nilf, cs, hc, hh, hp, hm, hn => ⟨[], by cases hc; rename_i hn; cases hn; exact .nilf .nil, rfl, rfl, .nil⟩
  | .arr c n xs, cs, hc, hh, hp, hm, hn => by
    obtain ⟨h1, h2, -⟩ := hc.arr_inv
    exact ⟨[], by simpa [outA] using RC.arr h1 (h2.encs ok.toEnvOk fun B h => hS _ _ h) .nil, rfl, rfl, .nil⟩
  | .ro g c xs, cs, hc, hh, hp, hm, hn => by
    refine ⟨[], ?_, rfl, rfl, .nil⟩
    simp only [outA]
    cases hc with
    | roE hn => cases hn; exact .roE .nil
    | ro h1 h2 h3 h4 hn => cases hn; exact .ro (h1.encs ok.toEnvOk fun B h => hS _ _ h) h2 (hS _ _ h3) h4 .nil
  | .clip g c xs, cs, hc, hh, hp, hm, hn => by
    refine ⟨[], ?_, rfl, rfl, .nil⟩
    simp only [outA]
    cases hc with
    | clipE hn => cases hn; exact .roE .nil
    | clip h1 h2 h3 hn => cases hn; exact .ro (h1.encs ok.toEnvOk fun B h => hS _ _ h) h2 (hS _ _ h3) (Nat.le_refl _) .nil
  | .rp g c xs i p, cs, hc, hh, hp, hm, hn => by
    refine ⟨[], ?_, rfl, rfl, .nil⟩
    simp only [outA]
    cases hc with
    | rp h1 h2 h3 h4 h5 hn => cases hn; exact .rp (h1.encs ok.toEnvOk fun B h => hS _ _ h) h2 (hS _ _ h3) h4 h5 .nil
theorem outAs_ok (ok : EnvOk2 E) (R : Rel E s N tm w ι St) {St' : Ck U → Nat → Prop} (hS : ∀ g B, St g B → St' g B) (cnt : List Nat) (hz : ∀ m c l, s.h m = .lst c l → m ∈ cnt → countN m cnt ≠ 1 → ∀ B, blkO (ι m) = some B → St' (.on false) B) :
    ∀ (q : List (A U)) {cs : List Value}, RC E w St ι q cs [] → holes (outAs s.h [] cnt q) = false → ptrss q = [] → (∀ m ∈ ownss q, m ∈ cnt) → (∀ m, countN m (ownss q) ≤ countN m cnt) →
    ∃ bs, RC E w St' noNm (outAs s.h [] cnt q) cs bs ∧ (outAs s.h [] cnt q).map (fun a => (size E.sz a, isAgg a)) = q.map (fun a => (size E.sz a, isAgg a)) ∧ Out E s ι w St' cnt (ownss q) bs
  | [], cs, hc, hh, hp, hm, hn => by cases hc; exact ⟨[], .nil, rfl, .nil⟩
  | q :: l, cs, hc, hh, hp, hm, hn => by
    obtain ⟨c1, c2, b1, b2, rfl, hb, h1, h2⟩ := RC.cons_inv hc
    obtain ⟨rfl, rfl⟩ := nil_or hb
    simp only [outAs, holes, Bool.or_eq_false_iff] at hh
    simp only [ownss] at hm hn ⊢
    obtain ⟨p1, p2⟩ := app_nil (by simpa [ptrss] using hp : ptrs q ++ ptrss l = [])
    obtain ⟨B1, i1, i2, i3, i4⟩ := outA_ok ok R hS cnt hz q h1 hh.1 p1 (fun m h => hm m (List.mem_append_left _ h)) (fun m => by have := hn m; rw [countN_append] at this; omega)
    obtain ⟨B2, j1, j2, j3⟩ := outAs_ok ok R hS cnt hz l h2 hh.2 p2 (fun m h => hm m (List.mem_append_right _ h)) (fun m => by have := hn m; rw [countN_append] at this; omega)
    exact ⟨B1 ++ B2, by simp only [outAs]; exact RC.cons i1 j1, by simp only [outAs, List.map_cons, i2, i3, j2], Out.append R i4 j3 hn⟩
end
end
end Go.V

/- V: blocks that have no names. -/
set_option linter.unusedVariables false
set_option linter.unusedSimpArgs false
namespace Go.V
variable {U : Nat → Type}
section
variable {E : Env U} {w : World} {St : Ck U → Nat → Prop} {ι : Nat → Option Value} {s : S U} {N : Nat} {tm : Array Value} {w0 : World} {St0 : Ck U → Nat → Prop} {O0 : Nat → Prop} {nb : Nat} {ιi : Nat → Option Value} {H : List (Nat × Obj)}

/-- what a hidden block holds is exchanged -/
theorem Inv.putH {r : Nat} {o o' : Obj} (I : Inv E N w0 St0 O0 (nb, ιi, (r, o) :: H) s tm w ι St) : Inv E N w0 St0 O0 (nb, ιi, (r, o') :: H) s tm (w.putObj r o') ι St := by
  obtain ⟨h1, h2, h3, h4⟩ := I.hid (r, o) (by simp)
  simp only [] at h1 h2 h3 h4
  have hlt := (Array.getElem?_eq_some_iff.1 h1).1
  have other : ∀ B, B ≠ r → (w.putObj r o').heap[B]? = w.heap[B]? := fun B h => World.putObj_heap_other h
  have hn := I.hnd
  simp only [List.map_cons, List.nodup_cons] at hn
  refine ⟨I.rel.world (by simp) (fun B hB => other B fun e => h3 (e ▸ hB)) (fun n B h5 h6 => other B fun e => h2 (e ▸ ⟨n, h5, h6⟩)), ⟨by simpa using I.fr.size, fun B hB ho => ?_, I.fr.out, I.fr.os, I.fr.tape, I.fr.drn⟩, I.own, I.gr, I.old, I.nbx, I.nbe, fun x hx => ?_, I.hnd, I.kn⟩
  · rw [other B (fun e => by subst e; rcases h4 with h | h; exact ho (.inl h); omega)]
    exact I.fr.same B hB ho
  · rcases List.mem_cons.1 hx with rfl | hx
    · exact ⟨World.putObj_heap_same hlt, h2, h3, h4⟩
    · obtain ⟨g1, g2⟩ := I.hid x (List.mem_cons_of_mem _ hx)
      refine ⟨?_, g2⟩
      rw [other x.1 (fun e => hn.1 (e ▸ List.mem_map_of_mem hx))]
      exact g1
theorem Inv.dropH {x : Nat × Obj} (I : Inv E N w0 St0 O0 (nb, ιi, x :: H) s tm w ι St) : Inv E N w0 St0 O0 (nb, ιi, H) s tm w ι St :=
  ⟨I.rel, I.fr, I.own, I.gr, I.old, I.nbx, I.nbe, fun y hy => I.hid y (List.mem_cons_of_mem _ hy), (List.nodup_cons.1 I.hnd).2, I.kn⟩

/-- a new hidden block -/
theorem Inv.newH (o : Obj) (I : Inv E N w0 St0 O0 (nb, ιi, H) s tm w ι St) : Inv E N w0 St0 O0 (nb, ιi, (w.heap.size, o) :: H) s tm (w.alloc o) ι St := by
  have hlt : ∀ B, B < w.heap.size → (w.alloc o).heap[B]? = w.heap[B]? := fun B h => by
    simp only [World.alloc, Array.getElem?_push]; rw [if_neg (by omega)]
  have hh : ∀ x ∈ H, x.1 < w.heap.size := fun x hx => (Array.getElem?_eq_some_iff.1 (I.hid x hx).1).1
  refine ⟨I.rel.world (by simp) (fun B hB => hlt B (I.rel.stb B hB)) (fun n B h5 h6 => hlt B (I.rel.lt n B h5 h6)), I.fr.trans (Fr.alloc _ _ _), I.own, I.gr, I.old, I.nbx, I.nbe, fun x hx => ?_, ?_, I.kn⟩
  · rcases List.mem_cons.1 hx with rfl | hx
    · refine ⟨World.alloc_heap_new _ _, fun ⟨n, h1, h2⟩ => ?_, fun h => ?_, .inr I.fr.size⟩
      · have := I.rel.lt n _ h1 h2; simp at this
      · have := I.rel.stb _ h; simp at this
    · obtain ⟨g1, g2⟩ := I.hid x hx
      exact ⟨(hlt x.1 (hh x hx)).trans g1, g2⟩
  · simp only [List.map_cons, List.nodup_cons]
    refine ⟨fun h => ?_, I.hnd⟩
    obtain ⟨x, hx, e⟩ := List.mem_map.1 h
    have := hh x hx
    omega

/-- a hidden block gets a name -/
theorem Inv.nameH {l : Nat} {L : Loop} {f id : Nat} {live : List Nat} {vals : List (A U)} (I : Inv E N w0 St0 O0 (nb, ιi, (l, .loop L) :: H) s tm w ι St) (hf : ∀ m, s.nx ≤ m → ι m = none) (hw : w0.heap.size ≤ l)
    (hL : LoopIs E f id live L) (hv : RVs E w St ι vals (live.map fun d => L.tmps.getD d undef)) (hJ : JumpIs 0 L) :
    Inv E N w0 St0 O0 (nb, ιi, H) { s with h := upd s.h s.nx (.lp f id live vals 0), nx := s.nx + 1 } tm w (upd ι s.nx (some (.func (.yield l) #[] #[]))) St ∧
      (∀ m, s.nx + 1 ≤ m → upd ι s.nx (some (.func (.yield l) #[] #[])) m = none) := by
  obtain ⟨h1, h2, h3, h4⟩ := I.hid (l, .loop L) (by simp)
  simp only [] at h1 h2 h3 h4
  have hb := hf s.nx (Nat.le_refl _)
  have hx : ∀ m u, ι m = some u → upd ι s.nx (some (.func (.yield l) #[] #[])) m = some u := fun m u h => by
    rw [upd_ne _ _ (fun e => by subst e; rw [hb] at h; cases h)]; exact h
  have e : Ext w St ι w St (upd ι s.nx (some (.func (.yield l) #[] #[]))) := ⟨fun _ _ h => h, hx, fun _ _ => rfl, Nat.le_refl _⟩
  have R := I.rel.adopt s.nx (.lp f id live vals 0) (.func (.yield l) #[] #[]) (I.rel.dead hb) (.inl hb) ⟨l, L, rfl, h1, hL, hv.ext e, hJ⟩ (fun B hl hB => by
    simp only [blk, base, Option.map_some, Option.some.injEq] at hB
    subst hB
    exact ⟨h3, fun m h5 h6 => h2 ⟨m, h5, h6⟩⟩)
  have own : ∀ B, Own { s with h := upd s.h s.nx (.lp f id live vals 0), nx := s.nx + 1 } (upd ι s.nx (some (.func (.yield l) #[] #[]))) B → B = l ∨ Own s ι B := by
    rintro B ⟨m, l1, b1⟩
    change isLive (upd s.h s.nx _ m) = true at l1
    by_cases e : m = s.nx
    · subst e; rw [upd_same] at b1; exact .inl (by simpa [blkO, blk, base] using b1.symm)
    · rw [upd_ne _ _ e] at l1 b1; exact .inr ⟨m, l1, b1⟩
  have hn := I.hnd
  simp only [List.map_cons, List.nodup_cons] at hn
  refine ⟨⟨⟨R.tsz, R.tmp, R.obj, R.dis, R.stb, R.apt, R.sup⟩, I.fr, fun B hB => ?_, I.gr, fun n hn => ?_, Nat.le_succ_of_le I.nbx, I.nbe, fun x hx => ?_, hn.2, I.kn⟩, fun m hm => ?_⟩
  · rcases own B hB with rfl | h
    · exact .inr hw
    · exact I.own B h
  · have := I.nbx
    rw [← I.old n hn]
    exact upd_ne _ _ (by have : n < s.nb := hn; omega)
  · obtain ⟨g1, g2, g3⟩ := I.hid x (List.mem_cons_of_mem _ hx)
    refine ⟨g1, fun h => ?_, g3⟩
    rcases own x.1 h with e | h
    · exact hn.1 (e ▸ List.mem_map_of_mem hx)
    · exact g2 h
  · rw [upd_ne _ _ (by omega)]; exact hf m (by omega)

/-- a loop's record is done with -/
theorem Inv.dropL {n l : Nat} (I : Inv E N w0 St0 O0 (nb, ιi, H) s tm w ι St) (o' : Obj) (hl : isLive (s.h n) = true) (hB : blkO (ι n) = some l) (k : Nat) (hk : s.nx ≤ k) :
    Inv E N w0 St0 O0 (nb, ιi, H) { s with h := upd s.h n .dead, nx := k } tm (w.putObj l o') ι St := by
  have hown : Own s ι l := ⟨n, hl, hB⟩
  have other : ∀ B, B ≠ l → (w.putObj l o').heap[B]? = w.heap[B]? := fun B h => World.putObj_heap_other h
  have sub : ∀ B, Own { s with h := upd s.h n .dead, nx := k } ι B → Own s ι B := by
    rintro B ⟨m, l1, b1⟩
    change isLive (upd s.h n .dead m) = true at l1
    by_cases e : m = n
    · subst e; rw [upd_same] at l1; simp [isLive] at l1
    · rw [upd_ne _ _ e] at l1; exact ⟨m, l1, b1⟩
  have R := (I.rel.kill n).world (w' := w.putObj l o') (by simp) (fun B hB' => other B fun e => I.rel.apt n l hl hB (e ▸ hB')) (fun m B l1 b1 => other B fun e => by
    subst e
    change isLive (upd s.h n .dead m) = true at l1
    by_cases e : m = n
    · subst e; rw [upd_same] at l1; simp [isLive] at l1
    · rw [upd_ne _ _ e] at l1; exact e (I.rel.dis m n B l1 hl b1 hB))
  refine ⟨⟨R.tsz, R.tmp, R.obj, R.dis, R.stb, R.apt, R.sup⟩, ⟨by simpa using I.fr.size, fun B h1 h2 => ?_, I.fr.out, I.fr.os, I.fr.tape, I.fr.drn⟩, fun B h => I.own B (sub B h), I.gr, I.old, Nat.le_trans I.nbx hk, I.nbe, fun x hx => ?_, I.hnd, I.kn⟩
  · rw [other B fun e => by subst e; rcases I.own B hown with h | h; exact h2 (.inl h); omega]
    exact I.fr.same B h1 h2
  · obtain ⟨g1, g2, g3⟩ := I.hid x hx
    refine ⟨?_, fun h => g2 (sub _ h), g3⟩
    rw [other x.1 fun e => g2 (e ▸ hown)]
    exact g1

/-- a round (the record 'L', in block l), or none -/
abbrev Rnd := Option (Nat × Loop)
def markOf (x : Nat × Obj) : Deferred := { target := .collected x.1, args := #[] }
/-- a frame on its way: in a round, its record is the one hidden block; in none, the hidden blocks are those that its deferred calls name -/
def FrOk (rnd : Rnd) (H : List (Nat × Obj)) (b : Frame) (a : Act) (hb : Bool) : Prop := match rnd with
  | none => b.roundOf = none ∧ a.defers = H.map markOf ∧ ∀ x ∈ H, x.2 = .deferred (some [])
  | some (l, L) => b.roundOf = some l ∧ a.defers = [] ∧ H = [(l, .loop { L with state := if hb then .ready else .busy })]

theorem FrOk.defers {rnd : Rnd} {b : Frame} {a a' : Act} {hb : Bool} (h : FrOk rnd H b a hb) (e : a'.defers = a.defers) : FrOk rnd H b a' hb := by
  unfold FrOk at *
  cases rnd with
  | none => exact ⟨h.1, e.trans h.2.1, h.2.2⟩
  | some x => exact ⟨h.1, e.trans h.2.1, h.2.2⟩
theorem FrOk.round {rnd : Rnd} {b : Frame} {a : Act} {hb : Bool} (h : FrOk rnd H b a hb) : b.roundOf = rnd.map (·.1) := by
  unfold FrOk at h
  cases rnd with
  | none => exact h.1
  | some x => exact h.1

/-- the marks among a frame's deferred calls are come to -/
theorem leave_marks {P : Program} (todo : List Item) : ∀ (H : List (Nat × Obj)) (w : World) (fr : Frame), Inv E N w0 St0 O0 (nb, ιi, H) s tm w ι St → (∀ x ∈ H, x.2 = .deferred (some [])) → fr.mode = .returning → fr.defers = H.map markOf →
    ∃ w', Inv E N w0 St0 O0 (nb, ιi, []) s tm w' ι St ∧ ∀ cs, Steps P (lone fr cs w) (lone { fr with defers := [] } cs w')
  | [], w, fr, I, hd, hm, hf => ⟨w, I, fun cs => by
      have : { fr with defers := [] } = fr := by
        have : fr.defers = [] := hf
        rw [← this]
      rw [this]
      exact Steps.refl _ _⟩
  | (r, o) :: H, w, fr, I, hd, hm, hf => by
    have ho : o = .deferred (some []) := hd (r, o) (by simp)
    subst ho
    have h1 := (I.hid (r, .deferred (some [])) (by simp)).1
    simp only [] at h1
    have hs := fun cs => step_collected (P := P) (fr := fr) (cs := cs) (w := w) (by rw [hm]; simp) hf rfl (run_takeDeferred (P := P) h1)
    obtain ⟨w', I', hst⟩ := leave_marks (P := P) todo H _ { fr with defers := [] ++ H.map markOf } (I.putH (o' := .deferred none)).dropH (fun x hx => hd x (List.mem_cons_of_mem _ hx)) hm (by simp)
    exact ⟨w', I', fun cs => Steps.head (hs cs) (hst cs)⟩
end
end Go.V

/- V: the way through a body. -/
set_option linter.unusedVariables false
set_option linter.unusedSimpArgs false
namespace Go.V
variable {U : Nat → Type}
section
variable {E : Env U} {w : World} {St : Ck U → Nat → Prop} {ι : Nat → Option Value} {s : S U} {N : Nat} {tm : Array Value} {w0 : World} {St0 : Ck U → Nat → Prop} {O0 : Nat → Prop} {ι0 : Ini} {K : A U → List (AObj U) → Prop}

theorem outAs_rvb (ok : EnvOk2 E) (R : Rel E s N tm w ι St) {St' : Ck U → Nat → Prop} (hS : ∀ g B, St g B → St' g B) (cnt : List Nat) (hz : ∀ m c l, s.h m = .lst c l → m ∈ cnt → countN m cnt ≠ 1 → ∀ B, blkO (ι m) = some B → St' (.on false) B) :
    ∀ (q : List (A U)) {vs : List Value}, Holds E w St ι q vs → anyTup q = false → holes (outAs s.h [] cnt q) = false → ptrss q = [] → (∀ m ∈ ownss q, m ∈ cnt) → (∀ m, countN m (ownss q) ≤ countN m cnt) →
    ∃ bs, RVb E w St' (outAs s.h [] cnt q) vs bs ∧ Out E s ι w St' cnt (ownss q) bs
  | [], vs, h, ht, hh, hp, hm, hn => by cases vs with | nil => exact ⟨[], rfl, .nil⟩ | cons _ _ => exact h.elim
  | q :: l, vs, h, ht, hh, hp, hm, hn => by
    cases vs with
    | nil => exact h.elim
    | cons v vs =>
      simp only [outAs, holes, Bool.or_eq_false_iff] at hh
      simp only [ownss] at hm hn ⊢
      obtain ⟨p1, p2⟩ := app_nil (by simpa [ptrss] using hp : ptrs q ++ ptrss l = [])
      have ht' : noTup q = true ∧ anyTup l = false := by
        cases q <;> first | exact ⟨rfl, ht⟩ | (simp [anyTup] at ht; done)
      have hq : q ≠ .none := fun e => by subst e; simp [outA, hole] at hh
      obtain ⟨h1, h2⟩ := RT.rc h.1 hq ht'.1
      obtain ⟨B1, i1, i2, i3, i4⟩ := outA_ok ok R hS cnt hz q h1 hh.1 p1 (fun m h => hm m (List.mem_append_left _ h)) (fun m => by have := hn m; rw [countN_append] at this; omega)
      obtain ⟨B2, j1, j2⟩ := outAs_rvb ok R hS cnt hz l h.2 ht'.2 hh.2 p2 (fun m h => hm m (List.mem_append_right _ h)) (fun m => by have := hn m; rw [countN_append] at this; omega)
      exact ⟨B1 ++ B2, ⟨B1, B2, rfl, i1, h2.trans i2.symm, j1⟩, Out.append R i4 j2 hn⟩

theorem fz_all (ok : EnvOk2 E) (R : Rel E s N tm w ι St) (cnt : List Nat) : ∃ St', (∀ g B, St g B → St' g B) ∧ (∀ g B, St' g B → St g B ∨ Own s ι B) ∧ (∀ B, An St' B → B < w.heap.size) ∧
    (∀ m c l, s.h m = .lst c l → m ∈ cnt → countN m cnt ≠ 1 → ∀ B, blkO (ι m) = some B → St' (.on false) B) ∧ (∀ m B, isLst (s.h m) = true → countN m cnt = 1 → blkO (ι m) = some B → ¬ An St' B) ∧ Sup E w St' := by
  obtain ⟨St', x, g, R', f, p⟩ := fzOf_ok ok (cnt.filter fun m => countN m cnt != 1) (s := s) (Frz.refl _) R (fun n c x h1 h2 => by rw [h1] at h2; cases h2)
  refine ⟨St', x.st, g, R'.stb, fun m c l hm hc hn B hB => p m (by simp [hc, hn]) (by rw [hm]; rfl) B hB false, fun m B hl hc hB => R'.apt m B ?_ hB, R'.sup⟩
  show isLive (upds s.h _ m) = true
  rw [upds_notin]
  · exact lst_live hl
  · intro hmem
    obtain ⟨y, hy, e⟩ := List.mem_map.1 hmem
    have := fzOf_names _ y hy
    rw [e, List.mem_filter] at this
    simp [hc] at this

theorem resV_length (res : List ResultVar) : (resV E s res).length = res.length := by
  induction res with
  | nil => rfl
  | cons r l ih => cases r <;> simp [resV, ih]

theorem Holds.length {l : List (A U)} {vs : List Value} (h : Holds E w St ι l vs) : l.length = vs.length := by
  induction l generalizing vs with
  | nil => cases vs with | nil => rfl | cons _ _ => exact h.elim
  | cons a l ih => cases vs with | nil => exact h.elim | cons v vs => simp [ih h.2]

theorem not_none_of (h : Nat → AObj U) (cnt : List Nat) : ∀ (l : List (A U)), holes (outAs h [] cnt l) = false → ∀ a ∈ l, a ≠ .none
  | [], hh, a, ha => by cases ha
  | q :: l, hh, a, ha => by
    simp only [outAs, holes, Bool.or_eq_false_iff] at hh
    rcases List.mem_cons.1 ha with rfl | ha
    · intro e; subst e; simp [outA, hole] at hh
    · exact not_none_of h cnt l hh.2 a ha

theorem outA_noTup (h : Nat → AObj U) (cnt : List Nat) (a : A U) (ht : noTup a = true) : noTup (outA h [] cnt a) = true := by
  cases a with
  | own m =>
    simp only [outA]
    cases h m with
    | lst c l => simp only []; cases Nat.beq (countN m cnt) 1 <;> rfl
    | _ => rfl
  | clo f l => simp only [outA]; cases (ownss l).isEmpty <;> rfl
  | tup l => simp [noTup] at ht
  | _ => rfl
theorem holeT_eq (x : A U) (h : noTup x = true) : holeT x = hole x := by
  cases x <;> first | rfl | (simp [noTup] at h; done)

theorem kconvs_holds (ok : EnvOk2 E) : ∀ (l : List (A U)) {s : S U} {St : Ck U → Nat → Prop}, Rel E s N tm w ι St → ∃ St', Ext w St ι w St' ι ∧ (∀ g B, St' g B → St g B ∨ Own s ι B) ∧ Rel E { s with h := upds s.h (kconvs E s.h l).2 } N tm w ι St' ∧
    (∀ n, isLive (upds s.h (kconvs E s.h l).2 n) = true → isLive (s.h n) = true) ∧ ∀ vs, Holds E w St ι l vs → Holds E w St' ι (kconvs E s.h l).1 vs
  | [], s, St, R => ⟨St, Ext.refl, fun _ _ h => .inl h, R, fun _ h => h, fun vs h => h⟩
  | q :: l, s, St, R => by
    obtain ⟨St1, x1, g1, R1, l1, h1, -⟩ := kconv_ok ok R q
    obtain ⟨St2, x2, g2, R2, l2, h2⟩ := kconvs_holds ok l R1
    simp only [kconvs, upds_append]
    refine ⟨St2, x1.trans x2, fun g B h => (g2 g B h).elim (g1 g B) fun ⟨n, a1, a2⟩ => .inr ⟨n, l1 n a1, a2⟩, R2, fun n h => l1 n (l2 n h), fun vs h => ?_⟩
    cases vs with
    | nil => exact h.elim
    | cons v vs => exact ⟨(h1 v h.1).ext x2, h2 vs (h.2.ext x1)⟩
theorem kconv_none (h : Nat → AObj U) {q : A U} (hq : (kconv E h q).1 ≠ .none) : q ≠ .none := fun e => by subst e; exact hq rfl
theorem kconvs_none : ∀ (l : List (A U)) (h : Nat → AObj U), (∀ a ∈ (kconvs E h l).1, a ≠ .none) → ∀ a ∈ l, a ≠ .none
  | [], _, _, a, ha => by cases ha
  | q :: l, h, hk, a, ha => by
    simp only [kconvs, List.mem_cons, forall_eq_or_imp] at hk
    rcases List.mem_cons.1 ha with rfl | ha
    · exact kconv_none h hk.1
    · exact kconvs_none l _ hk.2 a ha
/-- what is told becomes trees, where it is knots' boxes -/
theorem Inv.conv (ok : EnvOk2 E) (I : Inv E N w0 St0 O0 ι0 s tm w ι St) (res : List ResultVar) : ∃ St', Inv E N w0 St0 O0 ι0 { s with h := upds s.h (kconvs E s.h (resV E s res)).2 } tm w ι St' ∧
    ((∀ a ∈ (kconvs E s.h (resV E s res)).1, a ≠ .none) → ∃ vs, AllR E.P tm w res vs ∧ Holds E w St' ι (kconvs E s.h (resV E s res)).1 vs) := by
  obtain ⟨St', x, g, R, lv, hh⟩ := kconvs_holds ok (resV E s res) I.rel
  have ow : ∀ B, Own { s with h := upds s.h (kconvs E s.h (resV E s res)).2 } ι B → Own s ι B := fun B ⟨n, h1, h2⟩ => ⟨n, lv n h1, h2⟩
  refine ⟨St', ⟨R, I.fr, fun B h => I.own B (ow B h), fun q B h => (g q B h).elim (I.gr q B) fun h => .inr (I.own B h), I.old, I.nbx, I.nbe, fun y hy => ?_, I.hnd, fun c z B h => x.st _ _ (I.kn c z B h)⟩, fun hn => ?_⟩
  · obtain ⟨h1, h2, h3, h4⟩ := I.hid y hy
    exact ⟨h1, fun h => h2 (ow _ h), fun ⟨q, h⟩ => (g q _ h).elim (fun h => h3 ⟨q, h⟩) h2, h4⟩
  · obtain ⟨vs, h1, h2⟩ := res_run ok I.rel res (kconvs_none _ _ hn)
    exact ⟨vs, h1, hh vs h2⟩

theorem vret_sound (ok : EnvOk2 E) (I : Inv E N w0 St0 O0 ι0 s tm w ι St) {f : FuncId} {fn : Func} (hp : memN f E.procs = false) (hO : ∀ B, ¬ O0 B) (hv : vret E f fn.results s K) :
    ∃ r v bs St', (results fn tm).run E.P w = .ok v w ∧ Result' E w0 St0 K v w r bs St' := by
  unfold vret at hv
  simp only [] at hv
  obtain ⟨St9, I, hres⟩ := I.conv ok fn.results.toList
  revert hv I hres
  generalize ({ s with h := upds s.h (kconvs E s.h (resV E s fn.results.toList)).2 } : S U) = s
  generalize (kconvs E _ (resV E _ fn.results.toList)).1 = l
  intro hv I hres
  unfold vretL at hv
  rw [hp] at hv
  simp only [cond_false] at hv
  have R := I.rel
  cases hb : (!holeT (outA s.h [] (owns (one l)) (one l)) && ((ptrs (one l)).isEmpty && !anyTup l)) with
  | false => rw [hb] at hv; exact hv.elim
  | true =>
    rw [hb] at hv
    simp only [cond_true] at hv
    simp only [Bool.and_eq_true, Bool.not_eq_true', List.isEmpty_iff] at hb
    obtain ⟨b1, b2, b3⟩ := hb
    obtain ⟨St', f1, f2, f3, f4, f5, f6⟩ := fz_all ok R (owns (one l))
    have fin : ∀ (r : A U) (v : Value) (bs : List Nat), K r [] → RTb E w St' r v bs → Out E s ι w St' (owns (one l)) (owns (one l)) bs → Result' E w0 St0 K v w r bs St' := by
      intro r v bs hk hr ho
      refine ⟨hk, hr, I.fr.mono fun B _ h => h.resolve_left (hO B), f6, fun c x B h => f1 _ _ (I.kn c x B h), fun B hB => ?_, ho.nod, fun g B hB => ?_, f3⟩
      · obtain ⟨m, m1, m2, m3, m4⟩ := ho.own B hB
        exact ⟨(I.own B ⟨m, lst_live m2, m4⟩).resolve_left (hO B), R.lt m B (lst_live m2) m4, f5 m B m2 m3 m4⟩
      · rcases f2 g B hB with h | h
        · exact (I.gr g B h).imp id fun h => h.resolve_left (hO B)
        · exact .inr ((I.own B h).resolve_left (hO B))
    by_cases h1 : ∃ a, l = [a]
    · obtain ⟨a, rfl⟩ := h1
      have ht : noTup a = true := by cases a <;> first | rfl | (simp [anyTup] at b3; done)
      simp only [one] at *
      have hh : hole (outA s.h [] (owns a) a) = false := by
        rw [← holeT_eq _ (outA_noTup s.h (owns a) a ht)]; exact b1
      have hne : a ≠ .none := fun e => by subst e; simp [outA, hole] at hh
      obtain ⟨vs, r1, r2⟩ := hres (by simpa using hne)
      obtain ⟨v, rfl⟩ : ∃ v, vs = [v] := by
        cases vs with
        | nil => exact r2.elim
        | cons v vs => cases vs with | nil => exact ⟨v, rfl⟩ | cons _ _ => exact r2.2.elim
      obtain ⟨c1, c2⟩ := RT.rc r2.1 hne ht
      obtain ⟨bs, o1, o2, o3, o4⟩ := outA_ok ok R f1 (owns a) f4 a c1 hh b2 (fun _ h => h) (fun _ => Nat.le_refl _)
      refine ⟨_, v, bs, St', results_run r1, fin _ v bs hv ?_ o4⟩
      unfold RTb
      split
      · rename_i heq
        rw [heq] at o1
        cases o1
      · exact ⟨o1, c2.trans o2.symm⟩
    · have hone : one l = .tup l := by
        cases l with
        | nil => rfl
        | cons a l => cases l with | nil => exact absurd ⟨a, rfl⟩ h1 | cons _ _ => rfl
      rw [hone] at b1 b2 f4 f5 hv fin
      simp only [outA, holeT, ptrs, owns] at b1 b2 f4 f5 hv fin
      obtain ⟨vs, r1, r2⟩ := hres (not_none_of _ _ l b1)
      obtain ⟨bs, o1, o2⟩ := outAs_rvb ok R f1 (ownss l) f4 l r2 b3 b1 b2 (fun _ h => h) (fun _ => Nat.le_refl _)
      have hvs : oneV vs = .tuple vs.toArray := by
        have := r2.length
        cases vs with
        | nil => rfl
        | cons v vs => cases vs with
          | nil => exact absurd (List.length_eq_one_iff.1 (by simpa using this)) h1
          | cons _ _ => rfl
      refine ⟨_, _, bs, St', results_run r1, fin _ _ bs hv ?_ o2⟩
      rw [hvs]
      exact ⟨vs.toArray, rfl, by simpa using o1⟩

theorem Holds.rt_one {ι : Nat → Option Value} {l : List (A U)} {vs : List Value} (h : Holds E w St ι l vs) (ht : ∀ a ∈ l, noTup a = true) : RT E w St ι (one l) (oneV vs) := by
  cases l with
  | nil => cases vs with | nil => exact ⟨#[], rfl, trivial⟩ | cons _ _ => exact h.elim
  | cons a l =>
    cases vs with
    | nil => exact h.elim
    | cons v vs =>
      cases l with
      | nil => cases vs with | nil => exact h.1 | cons _ _ => exact h.2.elim
      | cons b l =>
        cases vs with
        | nil => exact h.2.elim
        | cons u vs =>
          show RT E w St ι (.tup (a :: b :: l)) _
          exact ⟨(v :: u :: vs).toArray, rfl, by simpa using h.rvs ht⟩

theorem vretP_sound (ok : EnvOk2 E) (I : Inv E N w0 St0 O0 ι0 s tm w ι St) (hf : ∀ m, s.nx ≤ m → ι m = none) {f : FuncId} {fn : Func} (hp : memN f E.procs = true) (hv : vret E f fn.results s K) :
    ∃ r v objs ι' St', (results fn tm).run E.P w = .ok v w ∧ ResP E w0 St0 O0 ι0.2.1 ι0.1 K v w r objs ι' St' := by
  unfold vret at hv
  simp only [] at hv
  obtain ⟨St9, I, hres⟩ := I.conv ok fn.results.toList
  have hnb : ({ s with h := upds s.h (kconvs E s.h (resV E s fn.results.toList)).2 } : S U).nx = s.nx := rfl
  revert hv I hres hnb
  generalize ({ s with h := upds s.h (kconvs E s.h (resV E s fn.results.toList)).2 } : S U) = s1
  generalize (kconvs E _ (resV E _ fn.results.toList)).1 = l
  intro hv I hres hnb
  rw [← hnb] at hf
  clear hnb
  unfold vretL at hv
  rw [hp] at hv
  simp only [cond_true] at hv
  cases hk : l.all known with
  | false => rw [hk] at hv; exact hv.elim
  | true =>
    rw [hk] at hv
    simp only [cond_true] at hv
    cases hx : layG s1.h s1.nx (upto s1.nb) l with
    | none => rw [hx] at hv; exact hv.elim
    | some x =>
      rw [hx] at hv
      have hk' : ∀ a ∈ l, known a = true := by simpa using hk
      obtain ⟨vs, r1, r2⟩ := hres fun a ha e => by have := hk' a ha; rw [e] at this; simp [known] at this
      have ht : ∀ a ∈ l, noTup a = true := fun a ha => noTup_known (hk' a ha)
      obtain ⟨ι2, L⟩ := layG_ok ok I.rel hx r2 ht (fun m h _ => hf m h)
      exact ⟨_, _, x.objs, reι x.L ι2, St9, results_run r1, hv, L.vals.rt_one (layG_noTup hx ht), L.heap, fun n hn => L.out n (by rw [← L.len]; exact hn), fun n hn => L.old I hx n (by rw [I.nbe]; exact hn), I.fr, fun B hB => I.own B (L.own B (L.sub B hB)), I.gr, I.kn⟩

theorem vend_sound (ok : EnvOk2 E) (I : Inv E N w0 St0 O0 ι0 s tm w ι St) (hf : ∀ m, s.nx ≤ m → ι m = none) {j : Nat} (hv : vend j s K) :
    ∃ objs ι' St', ResP E w0 St0 O0 ι0.2.1 ι0.1 K (.func (.func j) #[] #[]) w (.clo j []) objs ι' St' ∧ (∀ B, OwnH (nthO objs) ι' B → Own s ι B) ∧ ∀ B, An St' B → An St B := by
  unfold vend at hv
  cases hx : layG s.h s.nx (upto s.nb) [] with
  | none => rw [hx] at hv; exact hv.elim
  | some x =>
    rw [hx] at hv
    obtain ⟨ι2, L⟩ := layG_ok ok I.rel hx (us := []) trivial (fun a ha => by cases ha) (fun m h _ => hf m h)
    exact ⟨x.objs, reι x.L ι2, St, ⟨hv, .mk1 (.clo (vs := #[]) .nil rfl .nil) rfl rfl, L.heap, fun n hn => L.out n (by rw [← L.len]; exact hn), fun n hn => L.old I hx n (by rw [I.nbe]; exact hn), I.fr, fun B hB => I.own B (L.own B (L.sub B hB)), I.gr, I.kn⟩,
      fun B h => L.own B (L.sub B h), fun _ h => h⟩

-- steps
def Ends (P : Program) (b : Frame) (todo : List Item) (a : Act) (w : World) (R : Ending → World → Prop) : Prop :=
  (b.roundOf = none → ∀ cs, ∃ e w' fr, R e w' ∧ Comes P (lone (b.atR a todo) cs w) (lone fr cs w') e ∧ fr.fn = b.fn ∧ fr.leaving P w' e) ∧
  (b.roundOf ≠ none → ∀ c cs, ∃ v w', R (.returned v) w' ∧ Steps P (lone (b.atR a todo) (c :: cs) w) (lone (c.finish v) cs w'))

theorem Ends.of {P : Program} {b : Frame} {todo : List Item} {a : Act} {w : World} {R : Ending → World → Prop} (h : ∀ cs, ∃ todo' a' w', Steps P (lone (b.atR a todo) cs w) (lone (b.atR a' todo') cs w') ∧ Ends P b todo' a' w' R) : Ends P b todo a w R := by
  refine ⟨fun hr cs => ?_, fun hr c cs => ?_⟩
  · obtain ⟨todo', a', w', h1, h2⟩ := h cs
    obtain ⟨x, w2, fr, g1, g2, g3⟩ := h2.1 hr cs
    exact ⟨x, w2, fr, g1, Comes.of_steps h1 g2, g3⟩
  · obtain ⟨todo', a', w', h1, h2⟩ := h (c :: cs)
    obtain ⟨v, w2, g1, g2⟩ := h2.2 hr c cs
    exact ⟨v, w2, g1, Steps.trans h1 g2⟩
theorem Ends.step {P : Program} {b : Frame} {todo todo' : List Item} {a a' : Act} {w w' : World} {R : Ending → World → Prop} (h : ∀ cs, step P (lone (b.atR a todo) cs w) = .next (lone (b.atR a' todo') cs w')) (e : Ends P b todo' a' w' R) : Ends P b todo a w R :=
  .of fun cs => ⟨todo', a', w', .one (h cs), e⟩

def RetPost (E : Env U) (f : FuncId) (w0 : World) (St0 : Ck U → Nat → Prop) (O0 : Nat → Prop) (nb : Nat) (ιi : Nat → Option Value) (K : A U → List (AObj U) → Prop) (e : Ending) (w' : World) : Prop :=
  (memN f E.procs = false ∧ ∃ r v bs St', e = .returned v ∧ Result' E w0 St0 K v w' r bs St') ∨
  (memN f E.procs = true ∧ ∃ r v objs ι' St', e = .returned v ∧ ResP E w0 St0 O0 ιi nb K v w' r objs ι' St')
/-- what is asked of a frame's end -/
def FPost (E : Env U) (rnd : Rnd) (f : FuncId) (w0 : World) (St0 : Ck U → Nat → Prop) (O0 : Nat → Prop) (nb : Nat) (ιi : Nat → Option Value) (K : A U → List (AObj U) → Prop) : Ending → World → Prop := match rnd with
  | none => RetPost E f w0 St0 O0 nb ιi K
  | some (l, L) => RndPost E l L w0 St0 O0 ιi nb K
/-- a function that is called by values has no blocks of its caller's -/
def Plain (E : Env U) (f : FuncId) (O0 : Nat → Prop) : Prop := memN f E.procs = false → ∀ B, ¬ O0 B

variable {nb : Nat} {ιi : Nat → Option Value} {H : List (Nat × Obj)} {rnd : Rnd}

theorem ends_ret {b : Frame} {todo : List Item} {a : Act} {hb : Bool} (ok : EnvOk2 E) (I : Inv E N w0 St0 O0 (nb, ιi, H) s a.tmps w ι St) (hf : ∀ m, s.nx ≤ m → ι m = none) {f : FuncId} (hO : Plain E f O0) {fn : Func} (hfn : E.P.funcs[b.fn]? = some fn) (hk : b.kind = .normal)
    (hF : FrOk none H b a hb) (hv : vret E f fn.results s K)
    (hstep : ∀ cs, Go.step E.P (lone (b.atR a todo) cs w) = .next (lone { b.atR a todo with mode := .returning } cs w)) : Ends E.P b todo a w (RetPost E f w0 St0 O0 nb ιi K) := by
  refine ⟨fun _ cs => ?_, fun h => absurd hF.1 h⟩
  obtain ⟨w', I', hst⟩ := leave_marks (P := E.P) todo H w { b.atR a todo with mode := .returning } I hF.2.2 rfl hF.2.1
  have hgo : Steps E.P (lone (b.atR a todo) cs w) (lone { { b.atR a todo with mode := .returning } with defers := [] } cs w') := Steps.head (hstep cs) (hst cs)
  cases hp : memN f E.procs with
  | false =>
    obtain ⟨r, v, bs, St', h1, h2⟩ := vret_sound ok I' hp (hO hp) hv
    exact ⟨.returned v, w', _, .inl ⟨hp, r, v, bs, St', rfl, h2⟩, hgo, rfl, rfl, rfl, hk, fn, hfn, h1⟩
  | true =>
    obtain ⟨r, v, objs, ι', St', h1, h2⟩ := vretP_sound ok I' hf hp hv
    exact ⟨.returned v, w', _, .inr ⟨hp, r, v, objs, ι', St', rfl, h2⟩, hgo, rfl, rfl, rfl, hk, fn, hfn, h1⟩

/-- a round is left -/
theorem ends_round {b : Frame} {todo : List Item} {a : Act} {hb : Bool} {l : Nat} {L : Loop} (ok : EnvOk2 E) (I : Inv E N w0 St0 O0 (nb, ιi, H) s a.tmps w ι St) (hf : ∀ m, s.nx ≤ m → ι m = none) (hF : FrOk (some (l, L)) H b a hb) {j : Nat} (hv : vend j s K)
    (hstep : ∀ c cs v w', (Instr.endRound l (jumpOf j)).run E.P w = .ok v w' → Go.step E.P (lone (b.atR a todo) (c :: cs) w) = .next (lone (c.finish v) cs w')) : Ends E.P b todo a w (RndPost E l L w0 St0 O0 ιi nb K) := by
  refine ⟨fun h => absurd (hF.1.symm.trans h) (by simp), fun _ c cs => ?_⟩
  obtain ⟨h1, h2, rfl⟩ := hF
  have hh := (I.hid _ (List.mem_singleton.2 rfl)).1
  simp only [] at hh
  have hlt := (Array.getElem?_eq_some_iff.1 hh).1
  have hrun := run_endRound (P := E.P) (jumpOf j) hh
  have hj : (jumpOf j).isNone = Nat.beq j 0 := by
    cases j with
    | zero => rfl
    | succ j => cases j <;> rfl
  have hL : ({ { L with state := if hb then .ready else .busy } with state := if (jumpOf j).isNone then .ready else .done, pending := jumpOf j } : Loop) = endL L j := by
    unfold endL
    cases j with
    | zero => rfl
    | succ j => cases j <;> rfl
  have I' := I.putH (o' := .loop (endL L j))
  obtain ⟨objs, ι', St', g1, g2, g3⟩ := vend_sound ok I' hf hv
  obtain ⟨i1, i2, i3, -⟩ := I'.hid _ (List.mem_singleton.2 rfl)
  refine ⟨.bool (Nat.beq j 0), _, ⟨j, objs, ι', St', rfl, i1, g1, fun h => i2 (g2 _ h), fun h => i3 (g3 _ h)⟩, .one (hstep c cs _ _ ?_)⟩
  rw [hrun, hj, ← hL, hj]

/-- the regions that are still ahead -/
def ctxsT : List Item → List (Nat × List Item)
  | .code c :: k => ctxs c k ++ ctxsT k
  | .inLoop c :: k => ctxs c (.inLoop c :: k) ++ ctxsT k
  | _ :: k => ctxsT k
  | [] => []

theorem ctxsT_exit {id : Nat} : ∀ {k k' : List Item}, exitTo id k = some k' → ∀ x ∈ ctxsT k', x ∈ ctxsT k
  | [], k', h => by simp [exitTo] at h
  | i :: k, k', h => by
    intro x hx
    have rest : exitTo id k = some k' → x ∈ ctxsT (i :: k) := fun h => by
      have := ctxsT_exit h x hx
      cases i <;> simp only [ctxsT, List.mem_append] <;> first | exact .inr this | exact this
    cases i with
    | inBlock j =>
      simp only [exitTo] at h
      split at h
      · obtain rfl := Option.some.inj h; exact hx
      · exact rest h
    | _ => exact rest (by simpa [exitTo] using h)

def dstsIn (N : Nat) : List Oper → Bool
  | [] => true
  | o :: l => (match o.dst with | some d => Nat.blt d N | .none => true) && dstsIn N l
theorem dstsIn_iff {N : Nat} : ∀ {l : List Oper}, dstsIn N l = true → ∀ o ∈ l, ∀ d, o.dst = some d → d < N
  | [], h, o, ho => by cases ho
  | x :: l, h, o, ho => by
    simp only [dstsIn, Bool.and_eq_true] at h
    intro d hd
    rcases List.mem_cons.1 ho with rfl | ho
    · rw [hd] at h; simpa [Nat.blt_eq] using h.1
    · exact dstsIn_iff h.2 o ho d hd
def okRow (N : Nat) : Nat × List Item → Bool
  | (i, .code (.region j ops d) :: _) => Nat.beq i j && (cond d (stat ops.toList) true && dstsIn N ops.toList)
  | (i, .code (.rangeFunc _ ps a b) :: _) => Nat.beq i (lkey a b) && ps.toList.all fun p => Nat.blt p N
  | _ => false
def okRows (N : Nat) : List (Nat × List Item) → Bool
  | [] => true
  | x :: l => okRow N x && okRows N l
theorem okRows_iff {N : Nat} : ∀ {l : List (Nat × List Item)}, okRows N l = true → ∀ x ∈ l, okRow N x = true
  | [], h, x, hx => by cases hx
  | y :: l, h, x, hx => by
    simp only [okRows, Bool.and_eq_true] at h
    rcases List.mem_cons.1 hx with rfl | hx
    · exact h.1
    · exact okRows_iff h.2 x hx
def fstN : List (Nat × List Item) → List Nat
  | [] => []
  | x :: l => x.1 :: fstN l
theorem fstN_eq (l : List (Nat × List Item)) : fstN l = l.map (·.1) := by induction l with | nil => rfl | cons x l ih => simp [fstN, ih]
/-- all places of a body -/
def places (c : Code) : List (Nat × List Item) := ctxs c [] ++ roundC (rnds c)
/-- those of a function's own frame, or those of rounds -/
def placesOf (rd : Bool) (c : Code) : List (Nat × List Item) := cond rd (roundC (rnds c)) (ctxs c [])
theorem placesOf_in {rd : Bool} {c : Code} {x : Nat × List Item} (h : x ∈ placesOf rd c) : x ∈ places c := by
  cases rd with
  | false => exact List.mem_append_left _ h
  | true => exact List.mem_append_right _ h
def okBody (N : Nat) (c : Code) : Bool := distinctN (fstN (places c)) && okRows N (places c)

theorem ctxOf_mem {id : Nat} {k : List Item} : ∀ {l : List (Nat × List Item)}, (l.map (·.1)).Nodup → (id, k) ∈ l → ctxOf id l = k
  | [], hn, h => by cases h
  | (i, k') :: l, hn, h => by
    simp only [List.map_cons, List.nodup_cons] at hn
    simp only [ctxOf]
    rcases List.mem_cons.1 h with h | h
    · cases h; rw [Nat.beq_refl]; rfl
    · have : i ≠ id := fun e => hn.1 (e ▸ List.mem_map_of_mem (f := (·.1)) h)
      have hb : Nat.beq i id = false := by
        cases hb : Nat.beq i id with
        | false => rfl
        | true => exact absurd (Nat.eq_of_beq_eq_true hb) this
      rw [hb]
      exact ctxOf_mem hn.2 h

theorem placesOf_rd {rd : Bool} {c : Code} {id : Nat} {k : List Item} (hn : ((places c).map (·.1)).Nodup) (h : (id, k) ∈ placesOf rd c) : inRd id c = rd := by
  unfold inRd
  unfold places at hn
  rw [List.map_append] at hn
  cases rd with
  | true => rw [memN_iff]; exact List.mem_map_of_mem (f := (·.1)) h
  | false =>
    rw [memN_false]
    intro hm
    exact (List.nodup_append.1 hn).2.2 id (List.mem_map_of_mem (f := (·.1)) h) id hm rfl

theorem rnds_of : ∀ (c : Code) (k : List Item) (x : Nat × List Item), x ∈ ctxs c k → ∀ g ps a b k', x.2 = .code (.rangeFunc g ps a b) :: k' → (a, b) ∈ rnds c
  | .region id ops d, k, x, hx, g, ps, a, b, k', e => by
    simp only [ctxs, List.mem_cons, List.not_mem_nil, or_false] at hx
    subst hx
    simp at e
  | .seq p q, k, x, hx, g, ps, a, b, k', e => by
    simp only [ctxs, List.mem_append] at hx
    simp only [rnds, List.mem_append]
    exact hx.imp (fun h => rnds_of p _ x h g ps a b k' e) (fun h => rnds_of q _ x h g ps a b k' e)
  | .cond _ p q, k, x, hx, g, ps, a, b, k', e => by
    simp only [ctxs, List.mem_append] at hx
    simp only [rnds, List.mem_append]
    exact hx.imp (fun h => rnds_of p _ x h g ps a b k' e) (fun h => rnds_of q _ x h g ps a b k' e)
  | .block i c, k, x, hx, g, ps, a, b, k', e => rnds_of c _ x hx g ps a b k' e
  | .scope c, k, x, hx, g, ps, a, b, k', e => rnds_of c _ x hx g ps a b k' e
  | .loop c, k, x, hx, g, ps, a, b, k', e => rnds_of c _ x hx g ps a b k' e
  | .rangeFunc g' ps' a' b', k, x, hx, g, ps, a, b, k', e => by
    simp only [ctxs, List.mem_cons, List.not_mem_nil, or_false] at hx
    subst hx
    simp only [List.cons.injEq, Item.code.injEq, Code.rangeFunc.injEq] at e
    obtain ⟨⟨-, -, rfl, rfl⟩, -⟩ := e
    simp [rnds]
  | .skip, k, x, hx, g, ps, a, b, k', e => by simp [ctxs] at hx
  | .exit _, k, x, hx, g, ps, a, b, k', e => by simp [ctxs] at hx
  | .ret, k, x, hx, g, ps, a, b, k', e => by simp [ctxs] at hx
  | .label _, k, x, hx, g, ps, a, b, k', e => by simp [ctxs] at hx
  | .goto _, k, x, hx, g, ps, a, b, k', e => by simp [ctxs] at hx
  | .refuse _, k, x, hx, g, ps, a, b, k', e => by simp [ctxs] at hx
theorem rnds_in : ∀ (c : Code) (a b : Code), (a, b) ∈ rnds c → ∀ x, x ∈ rnds a ∨ x ∈ rnds b → x ∈ rnds c
  | .seq p q, a, b, h, x, hx => by
    simp only [rnds, List.mem_append] at h ⊢
    exact h.imp (fun h => rnds_in p a b h x hx) (fun h => rnds_in q a b h x hx)
  | .cond _ p q, a, b, h, x, hx => by
    simp only [rnds, List.mem_append] at h ⊢
    exact h.imp (fun h => rnds_in p a b h x hx) (fun h => rnds_in q a b h x hx)
  | .block i c, a, b, h, x, hx => rnds_in c a b h x hx
  | .scope c, a, b, h, x, hx => rnds_in c a b h x hx
  | .loop c, a, b, h, x, hx => rnds_in c a b h x hx
  | .rangeFunc g ps p q, a, b, h, x, hx => by
    simp only [rnds, List.mem_cons, List.mem_append, Prod.mk.injEq] at h ⊢
    rcases h with ⟨rfl, rfl⟩ | h | h
    · exact .inr hx
    · exact .inr (.inl (rnds_in p a b h x hx))
    · exact .inr (.inr (rnds_in q a b h x hx))
  | .region .., a, b, h, x, hx => by simp [rnds] at h
  | .skip, a, b, h, x, hx => by simp [rnds] at h
  | .exit _, a, b, h, x, hx => by simp [rnds] at h
  | .ret, a, b, h, x, hx => by simp [rnds] at h
  | .label _, a, b, h, x, hx => by simp [rnds] at h
  | .goto _, a, b, h, x, hx => by simp [rnds] at h
  | .refuse _, a, b, h, x, hx => by simp [rnds] at h
theorem roundC_of : ∀ (l : List (Code × Code)) (x : Nat × List Item), x ∈ roundC l → ∃ a b, (a, b) ∈ l ∧ (x ∈ ctxs a [.beginRound, .code b] ∨ x ∈ ctxs b [])
  | [], x, h => by simp [roundC] at h
  | (a, b) :: l, x, h => by
    simp only [roundC, List.mem_append] at h
    rcases h with h | h | h
    · exact ⟨a, b, by simp, .inl h⟩
    · exact ⟨a, b, by simp, .inr h⟩
    · obtain ⟨a', b', h1, h2⟩ := roundC_of l x h
      exact ⟨a', b', List.mem_cons_of_mem _ h1, h2⟩
theorem roundC_in : ∀ (l : List (Code × Code)) (a b : Code) (x : Nat × List Item), (a, b) ∈ l → (x ∈ ctxs a [.beginRound, .code b] ∨ x ∈ ctxs b []) → x ∈ roundC l
  | [], a, b, x, h, _ => by cases h
  | (p, q) :: l, a, b, x, h, hx => by
    simp only [roundC, List.mem_append]
    rcases List.mem_cons.1 h with h | h
    · cases h; exact hx.imp id .inl
    · exact .inr (.inr (roundC_in l a b x h hx))
/-- where a loop stands, its rounds do -/
theorem places_rnds {c : Code} {x : Nat × List Item} (hx : x ∈ places c) {g : Operand} {ps : Array Tmp} {a b : Code} {k' : List Item} (e : x.2 = .code (.rangeFunc g ps a b) :: k') : (a, b) ∈ rnds c := by
  rcases List.mem_append.1 hx with h | h
  · exact rnds_of c [] x h g ps a b k' e
  · obtain ⟨p, q, h1, h2⟩ := roundC_of _ x h
    refine rnds_in c p q h1 _ ?_
    exact h2.imp (fun h => rnds_of p _ x h g ps a b k' e) (fun h => rnds_of q _ x h g ps a b k' e)
theorem roundT_places {c a b : Code} (h : (a, b) ∈ rnds c) : ∀ x ∈ ctxsT (roundT a b), x ∈ placesOf true c := by
  intro x hx
  simp only [roundT, ctxsT, List.mem_append, List.not_mem_nil, or_false] at hx
  exact roundC_in _ a b x h hx

/-- what a cut promises -/
def CutOk (E : Env U) (f : FuncId) (id : Nat) (live : List Nat) (nb : Nat) (vals : List (A U)) (objs : List (AObj U)) (K : A U → List (AObj U) → Prop) : Prop :=
  ∀ (fn : Func) (N : Nat) (w0 : World) (St0 : Ck U → Nat → Prop) (O0 : Nat → Prop) (nbi : Nat) (ιi : Nat → Option Value) (H : List (Nat × Obj)) (rnd : Rnd) (b : Frame) (a : Act) (w : World) (ι : Nat → Option Value) (St : Ck U → Nat → Prop), E.P.funcs[f]? = some fn → fn.ntmps ≤ N → b.fn = f → b.kind = .normal →
    inRd id (bodyOf E.P f) = rnd.isSome → FrOk rnd H b a (hasBegin (ctxAll id (bodyOf E.P f))) → (rnd = none → Plain E f O0) →
    Inv E N w0 St0 O0 (nbi, ιi, H) (S.ofLay live nb vals objs) a.tmps w ι St → (∀ m, objs.length ≤ m → ι m = none) → Ends E.P b (ctxAll id (bodyOf E.P f)) a w (FPost E rnd f w0 St0 O0 nbi ιi K)
def CSound (E : Env U) (C : Cut U) : Prop := ∀ f id live nb vals objs K, cutOf f id E.cuts = some live → C f id nb vals objs K → CutOk E f id live nb vals objs K
end
end Go.V
