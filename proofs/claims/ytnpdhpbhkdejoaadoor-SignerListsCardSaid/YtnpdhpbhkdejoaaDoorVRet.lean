/- V: the end of a body. -/
import Derived.Test.YtnpdhpbhkdejoaaDoorVLay2
import Derived.Laws.Sem
set_option linter.unusedVariables false
set_option linter.unusedSimpArgs false
namespace Go.V
variable {U : Nat → Type}

inductive AllR (P : Program) (tm : Array Value) (w : World) : List ResultVar → List Value → Prop
  | nil : AllR P tm w [] []
  | tmp {d l vs} : AllR P tm w l vs → AllR P tm w (.tmp d :: l) (tm.getD d undef :: vs)
  | cell {d t l vs v} : ((do loadVar t (← asAddr (tm.getD d undef)) : Sem Value).run P w = .ok v w) → AllR P tm w l vs → AllR P tm w (.cell d t :: l) (v :: vs)

theorem AllR.length {P : Program} {tm : Array Value} {w : World} {l : List ResultVar} {vs : List Value} (h : AllR P tm w l vs) : vs.length = l.length := by
  induction h with
  | nil => rfl
  | tmp _ ih => simp [ih]
  | cell _ _ ih => simp [ih]

def oneV : List Value → Value
  | [v] => v
  | vs => .tuple vs.toArray

theorem results_run {P : Program} {tm : Array Value} {w : World} {fn : Func} {vs : List Value} (h : AllR P tm w fn.results.toList vs) :
    (results fn tm).run P w = .ok (oneV vs) w := by
  have key : ∀ {l : List ResultVar} {vs : List Value}, AllR P tm w l vs → (l.mapM fun (x : ResultVar) => (match x with
      | .tmp t => pure (tm.getD t undef)
      | .cell a t => do loadVar t (← asAddr (tm.getD a undef)) : Sem Value)).run P w = .ok vs w := by
    intro l vs h
    induction h with
    | nil => simp
    | tmp _ ih => simp only [List.mapM_cons, Sem.run_bind, Sem.run_pure, Result.andThen_ok, ih]
    | cell h1 _ ih => simp only [List.mapM_cons, Sem.run_bind, Sem.run_pure, Result.andThen_ok, ih] at h1 ⊢; rw [h1]; simp only [Result.andThen_ok, ih]
  unfold results
  rw [Array.mapM_eq_mapM_toList]
  simp only [Sem.run_bind, Sem.run_map, Sem.run_pure]
  refine (congrArg (fun r => Result.andThen (Result.andThen r (fun (a : List Value) w' => Result.ok a.toArray w')) (fun (a : Array Value) w' => Result.ok (if h : a.size = 1 then a[0] else Value.tuple a) w')) (key h)).trans ?_
  clear h
  match vs with
  | [] => rfl
  | [v] => rfl
  | v :: u :: l => rfl

section
variable {E : Env U} {w : World} {St : Bool → Nat → Prop} {ι : Nat → Option Value} {s : S U} {N : Nat} {tm : Array Value}

theorem asAddr_run (P : Program) (x : Addr) : (asAddr (.pointer (some x))).run P w = .ok x w := rfl

theorem loadVar_of (ok : EnvOk2 E) {t : TypeId} {v : A U} {B off : Nat} {ds : List Value} (hf : fits E t v = true) (h : RC E w St ι [v] ds []) (hr : w.rangeAt B off ds) :
    ∃ x, (loadVar t ⟨B, off, .none⟩).run E.P w = .ok x w ∧ RV E w St ι v x := by
  obtain ⟨x, h1, h2⟩ := load_run ok hf h hr
  refine ⟨x, ?_, h2⟩
  simpa [Instr.loadAt, Instr.sureAddr] using h1

theorem res_run (ok : EnvOk2 E) (R : Rel E s N tm w ι St) : ∀ (res : List ResultVar), (∀ a ∈ resV E s res, a ≠ .none) → ∃ vs, AllR E.P tm w res vs ∧ Holds E w St ι (resV E s res) vs
  | [], h => ⟨[], .nil, trivial⟩
  | .tmp d :: l, h => by
    simp only [resV, List.mem_cons, forall_eq_or_imp] at h
    obtain ⟨vs, h1, h2⟩ := res_run ok R l h.2
    exact ⟨_, .tmp h1, R.tmp d, h2⟩
  | .cell d t :: l, h => by
    simp only [resV, List.mem_cons, forall_eq_or_imp] at h ⊢
    obtain ⟨vs, h1, h2⟩ := res_run ok R l h.2
    have hd := R.tmp d
    cases hs : s.t d with
    | ptr n p =>
      rw [hs] at h hd
      simp only [] at h ⊢
      cases hf : fits E t (getO E (s.h n) p) with
      | false => rw [hf] at h; exact absurd rfl h.1
      | true =>
        obtain ⟨u, B, off, r1, r2, r3, r4⟩ := RV.ptr_inv hd
        obtain ⟨ds, q1, q2⟩ := getO_at ok.toEnvOk R r1 r2 r3 (fits_iff hf).1
        obtain ⟨x, e1, e2⟩ := loadVar_of ok hf q1 q2
        refine ⟨x :: vs, .cell ?_ h1, RT.of_rv e2, h2⟩
        rw [r4]
        simp only [Sem.run_bind, asAddr_run, Result.andThen_ok, e1]
    | _ => rw [hs] at h; exact absurd rfl h.1

-- what goes out
theorem countN_append (n : Nat) (l m : List Nat) : countN n (l ++ m) = countN n l + countN n m := by
  induction l with
  | nil => simp [countN]
  | cons x l ih => simp only [List.cons_append, countN, ih]; cases Nat.beq x n <;> simp <;> omega
theorem countN_pos {n : Nat} : ∀ {l : List Nat}, n ∈ l → 1 ≤ countN n l
  | [], h => by cases h
  | x :: l, h => by
    simp only [countN]
    cases hb : Nat.beq x n with
    | true => simp
    | false =>
      rcases List.mem_cons.1 h with rfl | h
      · rw [Nat.beq_refl] at hb; simp at hb
      · simpa using countN_pos h

structure Out (E : Env U) (s : S U) (ι : Nat → Option Value) (w : World) (St' : Bool → Nat → Prop) (cnt ns : List Nat) (bs : List Nat) : Prop where
  nod : bs.Nodup
  own : ∀ B ∈ bs, ∃ m ∈ ns, isLst (s.h m) = true ∧ countN m cnt = 1 ∧ blkO (ι m) = some B

theorem Out.nil {St' : Bool → Nat → Prop} {cnt ns : List Nat} : Out E s ι w St' cnt ns [] := ⟨.nil, fun B h => by cases h⟩

theorem lst_live {o : AObj U} (h : isLst o = true) : isLive o = true := by cases o <;> first | rfl | (simp [isLst] at h; done)

theorem Out.append {St' : Bool → Nat → Prop} {cnt n1 n2 b1 b2 : List Nat} (R : Rel E s N tm w ι St) (h1 : Out E s ι w St' cnt n1 b1) (h2 : Out E s ι w St' cnt n2 b2) (hc : ∀ m, countN m (n1 ++ n2) ≤ countN m cnt) :
    Out E s ι w St' cnt (n1 ++ n2) (b1 ++ b2) := by
  refine ⟨List.nodup_append.2 ⟨h1.nod, h2.nod, fun B hB B' hB' e => ?_⟩, fun B hB => ?_⟩
  · subst e
    obtain ⟨m, m1, m2, m3, m4⟩ := h1.own B hB
    obtain ⟨k, k1, k2, k3, k4⟩ := h2.own B hB'
    have := R.dis m k B (lst_live m2) (lst_live k2) m4 k4
    subst this
    have hm := hc m
    rw [countN_append, m3] at hm
    have := countN_pos m1
    have := countN_pos k1
    omega
  · rcases List.mem_append.1 hB with hB | hB
    · obtain ⟨m, m1, m2⟩ := h1.own B hB; exact ⟨m, List.mem_append_left _ m1, m2⟩
    · obtain ⟨m, m1, m2⟩ := h2.own B hB; exact ⟨m, List.mem_append_right _ m1, m2⟩

mutual
theorem outA_ok (ok : EnvOk2 E) (R : Rel E s N tm w ι St) {St' : Bool → Nat → Prop} (hS : ∀ g B, St g B → St' g B) (cnt : List Nat) (hz : ∀ m c l, s.h m = .lst c l → m ∈ cnt → countN m cnt ≠ 1 → ∀ B, blkO (ι m) = some B → St' false B) :
    ∀ (q : A U) {cs : List Value}, RC E w St ι [q] cs [] → hole (outA s.h [] cnt q) = false → ptrs q = [] → (∀ m ∈ owns q, m ∈ cnt) → (∀ m, countN m (owns q) ≤ countN m cnt) →
    ∃ bs, RC E w St' noNm [outA s.h [] cnt q] cs bs ∧ isAgg (outA s.h [] cnt q) = isAgg q ∧ size E.sz (outA s.h [] cnt q) = size E.sz q ∧ Out E s ι w St' cnt (owns q) bs
  | .own m, cs, hc, hh, hp, hm, hn => by
    obtain ⟨v, rfl, hv⟩ := hc.own_inv
    have h0 := R.obj m
    cases hs : s.h m with
    | lst c l =>
      rw [hs] at h0
      simp only [outA, hs]
      cases hb : Nat.beq (countN m cnt) 1 with
      | true =>
        simp only [cond_true]
        rcases h0 with ⟨⟨a0, h1⟩, h2⟩ | ⟨B, off, cap, ds, h1, h2, h3, h4, h5, h6⟩
        · rw [hv] at h1
          obtain rfl := Option.some.inj h1
          subst h2
          exact ⟨[], .uslE .nil, rfl, rfl, .nil⟩
        · rw [hv] at h1
          obtain rfl := Option.some.inj h1
          refine ⟨[B], .usl (h2.encs ok.toEnvOk fun B h => hS _ _ h) h3 h4 h5 h6 .nil, rfl, rfl, ⟨by simp, fun B' hB' => ?_⟩⟩
          simp only [List.mem_cons, List.not_mem_nil, or_false] at hB'
          subst hB'
          exact ⟨m, by simp [owns], by rw [hs]; rfl, Nat.eq_of_beq_eq_true hb, by rw [hv]; rfl⟩
      | false =>
        simp only [cond_false]
        have hne : countN m cnt ≠ 1 := fun e => by rw [e] at hb; simp at hb
        rcases h0 with ⟨⟨a0, h1⟩, h2⟩ | ⟨B, off, cap, ds, h1, h2, h3, h4, h5, h6⟩
        · rw [hv] at h1
          obtain rfl := Option.some.inj h1
          subst h2
          exact ⟨[], .roE .nil, rfl, rfl, .nil⟩
        · rw [hv] at h1
          obtain rfl := Option.some.inj h1
          exact ⟨[], .ro (h2.encs ok.toEnvOk fun B h => hS _ _ h) h3 (hz m c l hs (hm m (by simp [owns])) hne B (by rw [hv]; rfl)) h5 .nil, rfl, rfl, .nil⟩
    | fz c l =>
      rw [hs] at h0
      simp only [outA, hs]
      obtain ⟨v', h1, h2⟩ := h0
      rw [hv] at h1
      obtain rfl := Option.some.inj h1
      refine ⟨[], ?_, rfl, rfl, .nil⟩
      cases h2 with
      | roE _ => exact .roE .nil
      | ro q1 q2 q3 q4 _ => exact .ro (q1.encs ok.toEnvOk fun B h => hS _ _ h) q2 (hS _ _ q3) q4 .nil
    | dead => simp [outA, hs, hole] at hh
    | lp lf lid live vals j => simp [outA, hs, hole] at hh
    | box q => simp [outA, hs, hole] at hh
  | .agg l, cs, hc, hh, hp, hm, hn => by
    simp only [outA]
    obtain ⟨bs, h1, h2, h3⟩ := outAs_ok ok R hS cnt hz l hc.agg_inv (by simpa [outA, hole] using hh) (by simpa [ptrs] using hp) (by simpa [owns] using hm) (by simpa [owns] using hn)
    exact ⟨bs, by simpa using RC.agg h1 .nil, rfl, by simp only [size]; exact sizes_of h2, by simpa [owns] using h3⟩
  | .clo f l, cs, hc, hh, hp, hm, hn => by
    simp only [outA] at hh ⊢
    cases hb : (ownss l).isEmpty with
    | false => rw [hb] at hh; simp [hole] at hh
    | true =>
      rw [hb] at hh
      simp only [cond_true] at hh ⊢
      have hc' : ∃ vs : Array Value, cs = [.func (.func f) #[] vs] ∧ RC E w St ι l ((vs.toList.map (·.cells.toList)).flatten) [] ∧ vs.toList.map (fun v => (v.cells.size, isAggV v)) = l.map (fun a => (size E.sz a, isAgg a)) := by
        cases hc with
        | clo h1 h2 h3 => cases h3; exact ⟨_, rfl, h1, h2⟩
      obtain ⟨vs, rfl, h3, h4⟩ := hc'
      obtain ⟨bs, h1, h2, h5⟩ := outAs_ok ok R hS cnt hz l h3 (by simpa [hole] using hh) (by simpa [ptrs] using hp) (by simpa [owns] using hm) (by simpa [owns] using hn)
      have hbs : bs = [] := by
        cases bs with
        | nil => rfl
        | cons B bs =>
          obtain ⟨m, hm, -⟩ := h5.own B (by simp)
          rw [List.isEmpty_iff.1 hb] at hm; cases hm
      subst hbs
      exact ⟨[], .clo h1 (h4.trans h2.symm) .nil, rfl, rfl, .nil⟩
  | .nils c, cs, hc, hh, hp, hm, hn => by
    cases hc; rename_i hn; cases hn
    exact ⟨[], .uslE .nil, rfl, rfl, .nil⟩
  | .none, cs, hc, hh, hp, hm, hn => by cases hc
  | .tup l, cs, hc, hh, hp, hm, hn => by cases hc
  | .usl c l, cs, hc, hh, hp, hm, hn => by simp [outA, hole] at hh
  | .bsl .., cs, hc, hh, hp, hm, hn => by simp [outA, hole] at hh
  | .sub .., cs, hc, hh, hp, hm, hn => by simp [outA, hole] at hh
  | .ptr .., cs, hc, hh, hp, hm, hn => by simp [ptrs] at hp
  | .yld .., cs, hc, hh, hp, hm, hn => by simp [ptrs] at hp
  | .int k n, cs, hc, hh, hp, hm, hn => ⟨[], by cases hc; rename_i hn; cases hn; exact .int .nil, rfl, rfl, .nil⟩
  | .bool k, cs, hc, hh, hp, hm, hn => ⟨[], by cases hc; rename_i hn; cases hn; exact .bool .nil, rfl, rfl, .nil⟩
  | .str k, cs, hc, hh, hp, hm, hn => ⟨[], by cases hc; rename_i hn; cases hn; exact .str .nil, rfl, rfl, .nil⟩
  | .nilp, cs, hc, hh, hp, hm, hn => ⟨[], by cases hc; rename_i hn; cases hn; exact .nilp .nil, rfl, rfl, .nil⟩
  | .nilf, cs, hc, hh, hp, hm, hn => ⟨[], by cases hc; rename_i hn; cases hn; exact .nilf .nil, rfl, rfl, .nil⟩
  | .arr c n xs, cs, hc, hh, hp, hm, hn => by
    obtain ⟨h1, h2, -⟩ := hc.arr_inv
    exact ⟨[], by simpa [outA] using RC.arr h1 (h2.encs ok.toEnvOk fun B h => hS _ _ h) .nil, rfl, rfl, .nil⟩
  | .ro g c xs, cs, hc, hh, hp, hm, hn => by
    refine ⟨[], ?_, rfl, rfl, .nil⟩
    simp only [outA]
    cases hc with
    | roE hn => cases hn; exact .roE .nil
    | ro h1 h2 h3 h4 hn => cases hn; exact .ro (h1.encs ok.toEnvOk fun B h => hS _ _ h) h2 (hS _ _ h3) h4 .nil
  | .clip g c xs, cs, hc, hh, hp, hm, hn => by
    refine ⟨[], ?_, rfl, rfl, .nil⟩
    simp only [outA]
    cases hc with
    | clipE hn => cases hn; exact .roE .nil
    | clip h1 h2 h3 hn => cases hn; exact .ro (h1.encs ok.toEnvOk fun B h => hS _ _ h) h2 (hS _ _ h3) (Nat.le_refl _) .nil
  | .rp g c xs i p, cs, hc, hh, hp, hm, hn => by
    refine ⟨[], ?_, rfl, rfl, .nil⟩
    simp only [outA]
    cases hc with
    | rp h1 h2 h3 h4 h5 hn => cases hn; exact .rp (h1.encs ok.toEnvOk fun B h => hS _ _ h) h2 (hS _ _ h3) h4 h5 .nil
theorem outAs_ok (ok : EnvOk2 E) (R : Rel E s N tm w ι St) {St' : Bool → Nat → Prop} (hS : ∀ g B, St g B → St' g B) (cnt : List Nat) (hz : ∀ m c l, s.h m = .lst c l → m ∈ cnt → countN m cnt ≠ 1 → ∀ B, blkO (ι m) = some B → St' false B) :
    ∀ (q : List (A U)) {cs : List Value}, RC E w St ι q cs [] → holes (outAs s.h [] cnt q) = false → ptrss q = [] → (∀ m ∈ ownss q, m ∈ cnt) → (∀ m, countN m (ownss q) ≤ countN m cnt) →
    ∃ bs, RC E w St' noNm (outAs s.h [] cnt q) cs bs ∧ (outAs s.h [] cnt q).map (fun a => (size E.sz a, isAgg a)) = q.map (fun a => (size E.sz a, isAgg a)) ∧ Out E s ι w St' cnt (ownss q) bs
  | [], cs, hc, hh, hp, hm, hn => by cases hc; exact ⟨[], .nil, rfl, .nil⟩
  | q :: l, cs, hc, hh, hp, hm, hn => by
    obtain ⟨c1, c2, b1, b2, rfl, hb, h1, h2⟩ := RC.cons_inv hc
    obtain ⟨rfl, rfl⟩ := nil_or hb
    simp only [outAs, holes, Bool.or_eq_false_iff] at hh
    simp only [ownss] at hm hn ⊢
    obtain ⟨p1, p2⟩ := app_nil (by simpa [ptrss] using hp : ptrs q ++ ptrss l = [])
    obtain ⟨B1, i1, i2, i3, i4⟩ := outA_ok ok R hS cnt hz q h1 hh.1 p1 (fun m h => hm m (List.mem_append_left _ h)) (fun m => by have := hn m; rw [countN_append] at this; omega)
    obtain ⟨B2, j1, j2, j3⟩ := outAs_ok ok R hS cnt hz l h2 hh.2 p2 (fun m h => hm m (List.mem_append_right _ h)) (fun m => by have := hn m; rw [countN_append] at this; omega)
    exact ⟨B1 ++ B2, by simp only [outAs]; exact RC.cons i1 j1, by simp only [outAs, List.map_cons, i2, i3, j2], Out.append R i4 j3 hn⟩
end
end
end Go.V
