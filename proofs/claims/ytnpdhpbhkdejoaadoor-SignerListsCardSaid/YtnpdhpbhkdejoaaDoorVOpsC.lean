/- V: comparing whole values; bytes and strings; the greater and the lesser. -/
import Derived.Test.YtnpdhpbhkdejoaaDoorVOpsB
import Derived.ChangeKeysEq
import Derived.Laws.BytesString
set_option linter.unusedVariables false
set_option linter.unusedSimpArgs false
namespace Go.V
variable {U : Nat → Type}
section
variable {E : Env U} {w : World} {St : Bool → Nat → Prop} {ι : Nat → Option Value} {s : S U} {N : Nat} {a : Act} {b : Nat} {o : Oper}

/-- two plain values -/
theorem eqV_plain (ok : EnvOk2 E) {m : Nat} {t : TypeId} (ht : plainTy (E.ty t) = true) {p q : A U} {r : Bool} {x y : Value} (h : eqV E (m + 1) t p q = some r) (hx : RV E w St ι p x) (hy : RV E w St ι q y) (d : Nat) :
    (Op.equalIn (d + 1) t x y).run E.P w = .ok r w := by
  have hu := ok.under t
  unfold eqV at h
  cases hty : E.ty t with
  | int k0 =>
    rw [hty] at h hu
    simp only [tyOk] at hu
    cases p <;> try (simp at h; done)
    cases q <;> try (simp at h; done)
    rename_i k n k' n'
    simp only [] at h
    by_cases e : k = k'
    · subst e
      simp only [decide_true, cond_true, Option.some.injEq] at h
      subst h
      rw [RV.int_inv hx, RV.int_inv hy, run_equalIn_int w d t k k0 n n' hu]
      congr 1
    · simp [e] at h
  | bool =>
    rw [hty] at h hu
    simp only [tyOk] at hu
    cases p <;> try (simp at h; done)
    cases q <;> try (simp at h; done)
    simp only [Option.some.injEq] at h
    subst h
    rw [RV.bool_inv hx, RV.bool_inv hy, run_equalIn_bool w d t _ _ hu]
  | str =>
    rw [hty] at h hu
    simp only [tyOk] at hu
    cases p <;> try (simp at h; done)
    cases q <;> try (simp at h; done)
    simp only [Option.some.injEq] at h
    subst h
    rw [RV.str_inv hx, RV.str_inv hy, run_equalIn_string w d t _ _ hu, toList_eq_iff]
  | _ => rw [hty] at ht; simp [plainTy] at ht
theorem eqV_fits (ok : EnvOk2 E) {m : Nat} {t : TypeId} (ht : plainTy (E.ty t) = true) {x y : U t} {r : Bool} (h : eqV E (m + 1) t (E.enc t x) (E.enc t y) = some r) : fits E t (E.enc t x) = true ∧ fits E t (E.enc t y) = true := by
  have h1 := ok.encSize t x
  have h2 := ok.encSize t y
  unfold eqV at h
  revert h h1 h2
  generalize E.enc t x = p
  generalize E.enc t y = q
  intro h1 h2 h
  cases hty : E.ty t with
  | int k0 =>
    rw [hty] at h
    cases p <;> try (simp at h; done)
    cases q <;> try (simp at h; done)
    simp only [fits, known, isAgg, hty, rowTy, isNo, ← h1]
    simp [size, h2]
  | bool =>
    rw [hty] at h
    cases p <;> try (simp at h; done)
    cases q <;> try (simp at h; done)
    simp only [fits, known, isAgg, hty, rowTy, isNo, ← h1]
    simp [size, h2]
  | str =>
    rw [hty] at h
    cases p <;> try (simp at h; done)
    cases q <;> try (simp at h; done)
    simp only [fits, known, isAgg, hty, rowTy, isNo, ← h1]
    simp [size, h2]
  | _ => rw [hty] at ht; simp [plainTy] at ht

/-- two rows of plain values -/
theorem eqItems_run (ok : EnvOk2 E) {e : TypeId} (he : plainTy (E.ty e) = true) {l1 l2 : List (U e)} {xs ys : Array Value} (h1 : RC E w St ι (l1.map (E.enc e)) xs.toList []) (h2 : RC E w St ι (l2.map (E.enc e)) ys.toList []) (hl : l1.length = l2.length) (d : Nat) :
    ∀ (is : List Nat), (∀ i ∈ is, i < l1.length) → ∃ r, (Op.eqItems (d + 1) e (E.P.cellsOf e) xs ys is).run E.P w = .ok r w ∧ (r = true ↔ ∀ i ∈ is, l1[i]? = l2[i]?)
  | [], _ => ⟨true, by simp [Op.eqItems], by simp⟩
  | i :: is, h => by
    obtain ⟨r', hr', hiff⟩ := eqItems_run ok he h1 h2 hl d is fun j hj => h j (by simp [hj])
    have hi := h i (by simp)
    have hi2 : i < l2.length := by omega
    have hne : E.ty e ≠ .no := by intro e0; rw [e0] at he; simp [plainTy] at he
    obtain ⟨j, hj, hs, -⟩ := ok.info e hne
    have hc : E.P.cellsOf e = E.sz e := by simp [Program.cellsOf, hj, hs]
    obtain ⟨r1, -⟩ := h1.elem ok.toEnvOk hi
    obtain ⟨r2, -⟩ := h2.elem ok.toEnvOk hi2
    obtain ⟨r, hr, hri⟩ := (ok.eqA e he).2 (l1.getD i (E.dflt e)) (l2.getD i (E.dflt e))
    have f1 : fits E e (E.enc e (l1.getD i (E.dflt e))) = true ∧ fits E e (E.enc e (l2.getD i (E.dflt e))) = true := eqV_fits ok he hr
    rw [← ok.encSize e (l1.getD i (E.dflt e))] at r1
    rw [← ok.encSize e (l2.getD i (E.dflt e))] at r2
    obtain ⟨x, p1, p2⟩ := part_run ok f1.1 r1
    obtain ⟨y, q1, q2⟩ := part_run ok f1.2 r2
    rw [ok.encSize] at p1 q1
    have hrun := eqV_plain ok he hr p2 q2 d
    rw [hc] at hr' ⊢
    have e1 : l1[i]? = some (l1.getD i (E.dflt e)) := by simp [List.getD, hi]
    have e2 : l2[i]? = some (l2.getD i (E.dflt e)) := by simp [List.getD, hi2]
    simp only [Op.eqItems, Sem.run_bind, p1, q1, Result.andThen_ok, hrun]
    cases r with
    | false =>
      refine ⟨false, by simp, ?_⟩
      simp only [Bool.false_eq_true, false_iff]
      intro hall
      have := hall i (by simp)
      rw [e1, e2] at this
      exact absurd (hri.2 (Option.some.inj this)) (by simp)
    | true =>
      refine ⟨r', by simpa using hr', ?_⟩
      rw [hiff]
      have := hri.1 rfl
      constructor
      · intro h j hj
        rcases List.mem_cons.1 hj with rfl | hj
        · rw [e1, e2, this]
        · exact h j hj
      · intro h j hj
        exact h j (by simp [hj])

theorem eqFields_run (ok : EnvOk2 E) {q : TypeId → A U → A U → Option Bool} {d : Nat} (IH : ∀ t p p' r x y, q t p p' = some r → RV E w St ι p x → RV E w St ι p' y → (Op.equalIn d t x y).run E.P w = .ok r w) (xs ys : Array Value) :
    ∀ (fields : List Field) (l1 l2 : List (A U)) (k : Nat) (r : Bool), (∀ f ∈ fields, f.name ≠ "_") → eqFs E q (fields.map fun f => (f.type, f.offset)) l1 l2 k = some r → RC E w St ι l1 (xs.toList.drop k) [] → RC E w St ι l2 (ys.toList.drop k) [] →
      (Op.eqFields d xs ys fields).run E.P w = .ok r w
  | [], l1, l2, k, r, _, h, _, _ => by
    cases l1 <;> cases l2 <;> simp [eqFs] at h
    subst h
    simp [Op.eqFields]
  | f :: fields, l1, l2, k, r, hn, h, h1, h2 => by
    cases l1 with
    | nil => simp [eqFs] at h
    | cons p l1 =>
      cases l2 with
      | nil => simp [eqFs] at h
      | cons p' l2 =>
        simp only [List.map_cons, eqFs] at h
        cases hb : (Nat.beq f.offset k && (fits E f.type p && fits E f.type p')) with
        | false => rw [hb] at h; simp at h
        | true =>
          rw [hb] at h
          simp only [cond_true] at h
          simp only [Bool.and_eq_true] at hb
          obtain ⟨e0, f1, f2⟩ := hb
          have e0 := Nat.eq_of_beq_eq_true e0
          cases hq : q f.type p p' with
          | none => rw [hq] at h; simp at h
          | some r1 =>
            rw [hq] at h
            cases hr : eqFs E q (fields.map fun f => (f.type, f.offset)) l1 l2 (k + size E.sz p) with
            | none => rw [hr] at h; simp at h
            | some r2 =>
              rw [hr] at h
              obtain rfl := Option.some.inj h
              have piece : ∀ {v : A U} {l : List (A U)} {zs : Array Value}, RC E w St ι (v :: l) (zs.toList.drop k) [] → RC E w St ι [v] ((zs.toList.drop k).take (size E.sz v)) [] ∧ RC E w St ι l (zs.toList.drop (k + size E.sz v)) [] := by
                intro v l zs h
                obtain ⟨c1, c2, b1, b2, hc, hb, h1, h2⟩ := RC.cons_inv h
                obtain ⟨rfl, rfl⟩ := nil_or hb
                have hl := h1.length ok.toEnvOk
                simp only [sizes, Nat.add_zero] at hl
                rw [← List.drop_drop, hc, ← hl]
                simpa using ⟨h1, h2⟩
              obtain ⟨a1, a2⟩ := piece h1
              obtain ⟨b1, b2⟩ := piece h2
              have es : size E.sz p = size E.sz p' := ((fits_iff f1).2.1).trans ((fits_iff f2).2.1).symm
              have hk : f.offset = k := e0
              obtain ⟨x, p1, p2⟩ := part_run (cs := xs) (off := f.offset) ok f1 (by rw [hk]; exact a1)
              obtain ⟨y, q1, q2⟩ := part_run (cs := ys) (off := f.offset) ok f2 (by rw [hk]; exact b1)
              have hrun := IH _ _ _ _ _ _ hq p2 q2
              have hnm := hn f (by simp)
              have ih := eqFields_run ok IH xs ys fields l1 l2 (k + size E.sz p) r2 (fun g hg => hn g (by simp [hg])) hr a2 (by rw [es]; exact b2)
              simp only [Op.eqFields, hnm, ne_eq, not_false_eq_true, if_true, Sem.run_bind, p1, q1, Result.andThen_ok, hrun]
              cases r1
              · simp
              · simpa using ih

theorem memN_mem {n : Nat} {l : List Nat} : memN n l = true ↔ n ∈ l := by
  induction l with
  | nil => simp [memN]
  | cons m l ih =>
    simp only [memN, Bool.or_eq_true, ih, List.mem_cons]
    constructor
    · rintro (h | h)
      · exact .inl (Nat.eq_of_beq_eq_true h).symm
      · exact .inr h
    · rintro (rfl | h)
      · exact .inl (Nat.beq_refl _)
      · exact .inr h

theorem eqV_run (ok : EnvOk2 E) : ∀ (m : Nat) (t : TypeId) (p q : A U) (r : Bool) (x y : Value), eqV E m t p q = some r → RV E w St ι p x → RV E w St ι q y → ∀ d, m ≤ d → (Op.equalIn d t x y).run E.P w = .ok r w
  | 0, t, p, q, r, x, y, h, _, _, _, _ => by simp [eqV] at h
  | m + 1, t, p, q, r, x, y, h, hx, hy, d, hd => by
    obtain ⟨d, rfl⟩ := Nat.exists_eq_succ_of_ne_zero (n := d) (by omega)
    cases hp : plainTy (E.ty t) with
    | true => exact eqV_plain ok hp h hx hy d
    | false =>
      have hu := ok.under t
      unfold eqV at h
      cases hty : E.ty t with
      | int k => rw [hty] at hp; simp [plainTy] at hp
      | bool => rw [hty] at hp; simp [plainTy] at hp
      | str => rw [hty] at hp; simp [plainTy] at hp
      | no => rw [hty] at h; simp at h
      | func => rw [hty] at h; simp at h
      | sl e => rw [hty] at h; simp at h
      | ptr e =>
        rw [hty] at h hu
        simp only [tyOk] at hu
        have nn : ∀ v : Value, RV E w St ι (.nilp : A U) v → v = .pointer .none := fun v h => RV.nilp_inv h
        cases p <;> try (simp at h; done)
        · cases q <;> try (simp at h; done)
          · obtain rfl := Option.some.inj h
            rw [RV.nilp_inv hx, RV.nilp_inv hy]
            simp [Op.equalIn, run_underlying hu]
          · obtain rfl := Option.some.inj h
            obtain ⟨u, B, off, -, -, -, rfl⟩ := RV.ptr_inv hy
            rw [RV.nilp_inv hx]
            simp [Op.equalIn, run_underlying hu]
          · obtain rfl := Option.some.inj h
            obtain ⟨ds, B, off, -, -, -, -, -, rfl⟩ := RV.rp_inv hy
            rw [RV.nilp_inv hx]
            simp [Op.equalIn, run_underlying hu]
        · cases q <;> try (simp at h; done)
          obtain rfl := Option.some.inj h
          obtain ⟨u, B, off, -, -, -, rfl⟩ := RV.ptr_inv hx
          rw [RV.nilp_inv hy]
          simp [Op.equalIn, run_underlying hu]
        · cases q <;> try (simp at h; done)
          obtain rfl := Option.some.inj h
          obtain ⟨ds, B, off, -, -, -, -, -, rfl⟩ := RV.rp_inv hx
          rw [RV.nilp_inv hy]
          simp [Op.equalIn, run_underlying hu]
      | arr n e =>
        rw [hty] at h hu
        simp only [tyOk] at hu
        cases p <;> try (simp at h; done)
        cases q <;> try (simp at h; done)
        rename_i c n1 l1 c' n2 l2
        simp only [] at h
        split at h
        · rename_i hcc
          subst hcc
          cases hb : ((Nat.blt 0 m && memN t E.eqs) && ((Nat.beq c' e && Nat.beq n1 n) && (Nat.beq n2 n && plainTy (E.ty e)))) with
          | false => rw [hb] at h; simp at h
          | true =>
            rw [hb] at h
            simp only [cond_true, Option.some.injEq] at h
            simp only [Bool.and_eq_true] at hb
            obtain ⟨⟨h0, -⟩, ⟨e1, e2⟩, e3, he⟩ := hb
            have h0 : 0 < m := by simpa using h0
            have e1 := Nat.eq_of_beq_eq_true e1
            have e2 := Nat.eq_of_beq_eq_true e2
            have e3 := Nat.eq_of_beq_eq_true e3
            subst e1; subst e2; subst e3
            obtain ⟨xs, rfl, len1, rc1⟩ := RV.arr_inv hx
            obtain ⟨ys, rfl, len2, rc2⟩ := RV.arr_inv hy
            have hne : E.ty c' ≠ .no := by intro e0; rw [e0] at he; simp [plainTy] at he
            obtain ⟨j, hj, -⟩ := ok.info c' hne
            obtain ⟨d, rfl⟩ := Nat.exists_eq_succ_of_ne_zero (n := d) (by omega)
            obtain ⟨r', hr', hiff⟩ := eqItems_run ok he rc1 rc2 (len1.trans len2.symm) d (List.range n2) (fun i hi => by simpa [len1] using hi)
            rw [run_equalIn_array w (d + 1) xs ys hu hj, hr']
            congr 1
            rw [Bool.eq_iff_iff, hiff, ← h, ((ok.eqA c' he).1 l1 l2)]
            constructor
            · intro hall
              refine List.ext_getElem? fun i => ?_
              by_cases hi : i < n2
              · exact hall i (by simpa using hi)
              · rw [List.getElem?_eq_none (by omega), List.getElem?_eq_none (by omega)]
            · rintro rfl i hi; rfl
        · simp at h
      | st fs =>
        obtain ⟨fields, hf, rfl⟩ := under_st ok hty
        rw [hty] at h
        cases p <;> try (simp at h; done)
        cases q <;> try (simp at h; done)
        rename_i l1 l2
        simp only [] at h
        cases hb : memN t E.eqs with
        | false => rw [hb] at h; simp at h
        | true =>
          rw [hb] at h
          simp only [cond_true] at h
          obtain ⟨xs, rfl, rc1⟩ := RV.agg_inv hx
          obtain ⟨ys, rfl, rc2⟩ := RV.agg_inv hy
          have hq := ok.eqT
          unfold eqsOk at hq
          rw [List.all_eq_true] at hq
          have hq := hq t (memN_mem.1 hb)
          rw [hf] at hq
          simp only [Bool.and_eq_true, Bool.not_eq_true', List.all_eq_true, beq_eq_false_iff_ne, ne_eq] at hq
          have hfo : E.P.fieldsOf t = fields := by simp [Program.fieldsOf, hf]
          rw [run_equalIn_struct w d t xs ys (by rw [hfo]; exact hf) hq.2.2, hfo]
          exact eqFields_run ok (fun t p p' r x y h1 h2 h3 => eqV_run ok m t p p' r x y h1 h2 h3 d (by omega)) xs ys fields.toList l1 l2 0 r (fun f hf => hq.2.1 f hf) h (by simpa using rc1) (by simpa using rc2)


/-- where a slice's elements lie -/
def SrcAt (E : Env U) (w : World) (St : Bool → Nat → Prop) (ι : Nat → Option Value) (c : Nat) (x : Value) (l : List (U c)) : Prop :=
  ∃ a' cap, x = .slice a' l.length cap ∧ (l = [] ∨ ∃ B off ds, a' = some ⟨B, off, .none⟩ ∧ RC E w St ι (l.map (E.enc c)) ds [] ∧ w.rangeAt B off ds)
theorem at_nil {c : Nat} (cap : Nat) : SrcAt E w St ι c (.slice .none 0 cap) [] := ⟨_, _, rfl, .inl rfl⟩
theorem at_empty {c : Nat} (a' : Option Addr) (cap : Nat) : SrcAt E w St ι c (.slice a' 0 cap) [] := ⟨_, _, rfl, .inl rfl⟩
theorem at_cells {c : Nat} {B off cap : Nat} {l : List (U c)} {ds : List Value} (h : RC E w St ι (l.map (E.enc c)) ds []) (hr : w.rangeAt B off ds) : SrcAt E w St ι c (.slice (some ⟨B, off, .none⟩) l.length cap) l :=
  ⟨_, _, rfl, .inr ⟨B, off, ds, rfl, h, hr⟩⟩
theorem content_at (ok : EnvOk2 E) (R : Rel E s N a.tmps w ι St) {y : A U} {v : Value} (hv : RT E w St ι y v) {q : Cont U} (hc : content E s.h y = some q) :
    SrcAt E w St ι q.c v q.l := by
  cases y with
  | nils c' =>
    obtain rfl := Option.some.inj hc
    rw [RV.nils_inv hv]
    exact at_nil 0
  | ro g c' l' =>
    obtain rfl := Option.some.inj hc
    obtain ⟨a', cap, h1, h2⟩ := RV.ro_inv hv
    rcases h2 with rfl | ⟨ds, B, off, rfl, h3, h4, h5, h6⟩
    · rw [h1]; exact at_empty _ _
    · rw [h1]; exact at_cells h3 h4
  | clip g c' l' =>
    obtain rfl := Option.some.inj hc
    obtain ⟨a', h1, h2⟩ := RV.clip_inv hv
    rcases h2 with rfl | ⟨ds, B, off, rfl, h3, h4, h5⟩
    · rw [h1]; exact at_empty _ _
    · rw [h1]; exact at_cells h3 h4
  | own m =>
    obtain ⟨a', L, C, h1, h2⟩ := RV.own_inv hv
    have key : s.h m = .lst q.c q.l ∨ s.h m = .fz q.c q.l := by
      cases hm : s.h m with
      | lst c' l' =>
        simp only [content, hm] at hc
        obtain rfl := Option.some.inj hc
        exact .inl rfl
      | fz c' l' =>
        simp only [content, hm] at hc
        obtain rfl := Option.some.inj hc
        exact .inr rfl
      | dead => simp [content, hm] at hc
      | lp lf lid live vals j => simp [content, hm] at hc
      | box q => simp [content, hm] at hc
    obtain ⟨rfl, q⟩ := R.own_at key h2
    rcases q with e0 | ⟨B, off, ds, rfl, q1, q2, q3⟩
    · rw [h1, e0]; exact at_empty _ _
    · rw [h1]; exact at_cells q1 q2
  | sub m c i len =>
    obtain ⟨a0, a1, L, C, cap, r1, r2, r3, r4, r5, r6⟩ := RV.sub_inv hv
    have key : ∃ l', (s.h m = .lst c l' ∨ s.h m = .fz c l') ∧ q = ⟨[m], c, cut l' i len⟩ := by
      cases hm : s.h m with
      | lst c' l' =>
        simp only [content, hm] at hc
        cases hb : Nat.beq c' c with
        | false => rw [hb] at hc; simp at hc
        | true =>
          rw [hb] at hc
          have := Nat.eq_of_beq_eq_true hb
          subst this
          obtain rfl := Option.some.inj hc
          exact ⟨l', .inl rfl, rfl⟩
      | fz c' l' =>
        simp only [content, hm] at hc
        cases hb : Nat.beq c' c with
        | false => rw [hb] at hc; simp at hc
        | true =>
          rw [hb] at hc
          have := Nat.eq_of_beq_eq_true hb
          subst this
          obtain rfl := Option.some.inj hc
          exact ⟨l', .inr rfl, rfl⟩
      | dead => simp [content, hm] at hc
      | lp lf lid live vals j => simp [content, hm] at hc
      | box q => simp [content, hm] at hc
    obtain ⟨l', h1, rfl⟩ := key
    obtain ⟨rfl, q⟩ := R.own_at h1 r1
    have hlen : (cut l' i len).length = len := by simp only [cut, List.length_take, List.length_drop]; omega
    rw [r6]
    by_cases hz : len = 0
    · have : cut l' i len = [] := List.eq_nil_of_length_eq_zero (by omega)
      simp only [this]
      rw [hz]
      exact at_empty _ _
    · rcases q with rfl | ⟨B, off, ds, rfl, q1, q2, q3⟩
      · simp at r2; omega
      · have ha := r5.resolve_left (by omega)
        simp only [Option.map_some, Addr.add_eq] at ha
        subst ha
        obtain ⟨es, p1, p2⟩ := cut_cells ok.toEnvOk q1 q2 r2
        have := at_cells (cap := cap) p1 p2
        rw [hlen] at this
        exact this
  | bsl m p c M i len =>
    obtain ⟨B, a1, cap, r1, r2, r3, r4, r5, r6, r7⟩ := RV.bsl_inv hv
    cases hm : s.h m with
    | box q0 =>
      simp only [content, hm] at hc
      cases hg : getP E q0 p with
      | arr c' M' l' =>
        rw [hg] at hc
        cases hb : (Nat.beq c c' && Nat.beq M M') with
        | false => simp [hb] at hc
        | true =>
          simp only [hb, cond_true] at hc
          simp only [Bool.and_eq_true] at hb
          have e1 := Nat.eq_of_beq_eq_true hb.1
          have e2 := Nat.eq_of_beq_eq_true hb.2
          subst e1; subst e2
          obtain rfl := Option.some.inj hc
          have h0 := R.obj m
          rw [hm] at h0
          obtain ⟨B', cs, h1, h2, h3, h4, h5⟩ := h0
          rw [r1] at h1
          simp only [Option.some.injEq, Value.pointer.injEq, Addr.mk.injEq, and_true] at h1
          subst h1
          obtain ⟨g1, g2⟩ := h2.getP ok.toEnvOk p r6 (by rw [hg]; rfl)
          rw [hg] at g1 g2
          obtain ⟨g3, g4, -⟩ := g1.arr_inv
          have hlen : (cut l' i len).length = len := by simp only [cut, List.length_take, List.length_drop]; omega
          rw [r7]
          by_cases hz : len = 0
          · have : cut l' i len = [] := List.eq_nil_of_length_eq_zero (by omega)
            simp only [this]
            rw [hz]
            exact at_empty _ _
          · have ha := r5.resolve_left (by omega)
            subst ha
            have hr := rangeAt_sub h3 (po p) (size E.sz (.arr c M l' : A U))
            rw [Nat.zero_add] at hr
            obtain ⟨es, p1, p2⟩ := cut_cells ok.toEnvOk g4 hr (by omega : i + len ≤ l'.length)
            have := at_cells (cap := cap) p1 p2
            rw [hlen] at this
            exact this
      | none => simp [hg] at hc
      | int => simp [hg] at hc
      | bool => simp [hg] at hc
      | str => simp [hg] at hc
      | nilp => simp [hg] at hc
      | nilf => simp [hg] at hc
      | agg => simp [hg] at hc
      | nils => simp [hg] at hc
      | ro => simp [hg] at hc
      | clip => simp [hg] at hc
      | usl => simp [hg] at hc
      | own => simp [hg] at hc
      | sub => simp [hg] at hc
      | bsl => simp [hg] at hc
      | ptr => simp [hg] at hc
      | yld => simp [hg] at hc
      | rp => simp [hg] at hc
      | clo => simp [hg] at hc
      | tup => simp [hg] at hc
    | dead => simp [content, hm] at hc
    | lp lf lid live vals j => simp [content, hm] at hc
    | lst => simp [content, hm] at hc
    | fz => simp [content, hm] at hc
  | none => simp [content] at hc
  | int => simp [content] at hc
  | bool => simp [content] at hc
  | str => simp [content] at hc
  | nilp => simp [content] at hc
  | nilf => simp [content] at hc
  | agg => simp [content] at hc
  | arr => simp [content] at hc
  | usl => simp [content] at hc
  | ptr => simp [content] at hc
  | yld => simp [content] at hc
  | rp => simp [content] at hc
  | clo => simp [content] at hc
  | tup => simp [content] at hc

def isPt : A U → Bool
  | .nilp | .ptr .. | .rp .. => true
  | _ => false
theorem eqV_forms {m : Nat} {t : TypeId} {p q : A U} {r : Bool} (hp : plainTy (E.ty t) = false) (h : eqV E (m + 1) t p q = some r) : (isAgg p = true ∧ isAgg q = true ∧ memN t E.eqs = true) ∨ (isPt p = true ∧ isPt q = true) := by
  unfold eqV at h
  cases hty : E.ty t with
  | int k => rw [hty] at hp; simp [plainTy] at hp
  | bool => rw [hty] at hp; simp [plainTy] at hp
  | str => rw [hty] at hp; simp [plainTy] at hp
  | no => rw [hty] at h; simp at h
  | func => rw [hty] at h; simp at h
  | sl e => rw [hty] at h; simp at h
  | ptr e =>
    rw [hty] at h
    cases p <;> cases q <;> first | (simp at h; done) | exact .inr ⟨rfl, rfl⟩
  | arr n e =>
    rw [hty] at h
    cases p <;> cases q <;> first | (simp at h; done) | skip
    simp only [] at h
    split at h
    · cases hb : memN t E.eqs with
      | false => rw [hb] at h; simp at h
      | true => exact .inl ⟨rfl, rfl, rfl⟩
    · simp at h
  | st fs =>
    rw [hty] at h
    cases p <;> cases q <;> first | (simp at h; done) | skip
    cases hb : memN t E.eqs with
    | false => rw [hb] at h; simp at h
    | true => exact .inl ⟨rfl, rfl, rfl⟩
theorem op_eq (ok : EnvOk2 E) (R : Rel E s N a.tmps w ι St) (op : BinOp) (t ty : TypeId) (x y : Operand) (ho : o.op = .binOp op t x y ty) (hp : plainTy (E.ty t) = false) {r : Bool} (he : eqV E 20 t (s.ev E t x) (s.ev E ty y) = some r) {v : A U} (hv : op = .eql ∧ v = .bool r ∨ op = .neq ∧ v = .bool (!r)) :
    Ops E s N a w ι St b o [] v := by
  have hforms := eqV_forms hp he
  have k12 : known (s.ev E t x) = true ∧ known (s.ev E ty y) = true := by
    rcases hforms with ⟨h1, h2, -⟩ | ⟨h1, h2⟩
    · constructor
      · revert h1; cases s.ev E t x <;> simp [isAgg, known]
      · revert h2; cases s.ev E ty y <;> simp [isAgg, known]
    · constructor
      · revert h1; cases s.ev E t x <;> simp [isPt, known]
      · revert h2; cases s.ev E ty y <;> simp [isPt, known]
  have h1 := (ev_ok ok R t x).rv k12.1
  have h2 := (ev_ok ok R ty y).rv k12.2
  have hrun := eqV_run ok 20 t _ _ r _ _ he h1 h2 10000 (by omega)
  have fin : ((eqGuard op t x y (a.eval x) (a.eval y)).run E.P w = .ok () w) → ((binOp op t (a.eval x) (a.eval y)).run E.P w = .ok (.bool (cond (op == .neq) (!r) r)) w) → Ops E s N a w ι St b o [] v := by
    intro g1 g2
    rcases hv with ⟨rfl, rfl⟩ | ⟨rfl, rfl⟩
    · exact Ops.pure R (u := .bool r) (by simp only [execOp, ho, Sem.run_bind, g1, Result.andThen_ok, g2]; rfl) (RT.of_rv (.mk1 (.bool .nil) rfl rfl))
    · exact Ops.pure R (u := .bool (!r)) (by simp only [execOp, ho, Sem.run_bind, g1, Result.andThen_ok, g2]; rfl) (RT.of_rv (.mk1 (.bool .nil) rfl rfl))
  rcases hforms with ⟨q1, q2, q3⟩ | ⟨q1, q2⟩
  · obtain ⟨c1, e1⟩ : ∃ cs, a.eval x = .agg cs := by
      have := h1.2; rw [q1] at this
      revert this; cases a.eval x <;> simp [isAggV]
    obtain ⟨c2, e2⟩ : ∃ cs, a.eval y = .agg cs := by
      have := h2.2; rw [q2] at this
      revert this; cases a.eval y <;> simp [isAggV]
    rw [e1, e2] at hrun fin
    have hq := ok.eqT
    unfold eqsOk at hq
    rw [List.all_eq_true] at hq
    have hq := hq t (memN_mem.1 q3)
    simp only [Bool.and_eq_true, Bool.not_eq_true'] at hq
    refine fin ?_ ?_
    · rcases hv with ⟨rfl, -⟩ | ⟨rfl, -⟩ <;> simp [eqGuard, hq.1]
    · rcases hv with ⟨rfl, -⟩ | ⟨rfl, -⟩ <;> (simp only [binOp, Op.equal, Op.maxDepth, Sem.run_bind, hrun, Result.andThen_ok]; rfl)
  · have pt : ∀ {p : A U} {v : Value}, isPt p = true → RV E w St ι p v → ∃ a', v = .pointer a' := by
      intro p v hp h
      cases p <;> first | (simp [isPt] at hp; done) | skip
      · exact ⟨_, RV.nilp_inv h⟩
      · obtain ⟨_, _, _, -, -, -, e⟩ := RV.ptr_inv h; exact ⟨_, e⟩
      · obtain ⟨_, _, _, -, -, -, -, -, e⟩ := RV.rp_inv h; exact ⟨_, e⟩
    obtain ⟨c1, e1⟩ := pt q1 h1
    obtain ⟨c2, e2⟩ := pt q2 h2
    rw [e1, e2] at hrun fin
    refine fin ?_ ?_
    · rcases hv with ⟨rfl, -⟩ | ⟨rfl, -⟩ <;> simp [eqGuard]
    · rcases hv with ⟨rfl, -⟩ | ⟨rfl, -⟩ <;> (simp only [binOp, Op.equal, Op.maxDepth, Sem.run_bind, hrun, Result.andThen_ok]; rfl)

theorem foldl_push : ∀ (ns : List Int) (x : ByteArray), ns.foldl (fun r n => r.push (UInt8.ofNat n.toNat)) x = ⟨x.data ++ (ns.map fun n => UInt8.ofNat n.toNat).toArray⟩
  | [], x => by cases x; simp
  | n :: ns, x => by
    rw [List.foldl_cons, foldl_push ns]
    cases x
    simp [ByteArray.push]
theorem map_enc_int (ok : EnvOk2 E) {c : Nat} {l : List (U c)} {ns : List Int} (h : l.map (E.enc c) = ns.map (.int .u8)) {ds : List Value} (hr : RC E w St ι (l.map (E.enc c)) ds []) : ds = ns.map (.int .u8) := by
  rw [h] at hr
  clear h
  induction ns generalizing ds with
  | nil => cases hr; rfl
  | cons n ns ih =>
    simp only [List.map_cons] at hr ⊢
    cases hr with
    | int h => rw [ih h]

theorem op_bytes_str (ok : EnvOk2 E) (R : Rel E s N a.tmps w ι St) (t d : TypeId) (x : Operand) (ho : o.op = .convert t d x) (hd : E.ty d = .str) {q : Cont U} (hc : content E s.h (s.ev E t x) = some q) (hs : slOf E t q.c = true) {g : ByteArray} (hg : E.toBytes q.c q.l = some g) :
    Ops E s N a w ι St b o [] (.str g) := by
  obtain ⟨t1, t2⟩ := slOf_iff ok hs
  obtain ⟨t3, ns, e1, rfl⟩ := ok.toB _ _ _ hg
  have hu : E.P.underlying d = some .string := by have := ok.under d; rw [hd] at this; exact this
  have hu2 : E.P.underlying q.c = some (.int .u8) := by have := ok.under q.c; rw [t3] at this; exact this
  obtain ⟨a', cap, h1, h2⟩ := content_at ok R (ev_ok ok R t x) hc
  have hrun : (Conv.bytesToString (.slice a' q.l.length cap)).run E.P w = .ok (.string (bytesOf ns)) w := by
    have hlen : q.l.length = ns.length := by simpa using congrArg List.length e1
    rcases h2 with h2 | ⟨B, off, ds, rfl, h3, h4⟩
    · have hn : ns = [] := List.eq_nil_of_length_eq_zero (by rw [← hlen, h2]; rfl)
      subst hn
      cases a' with
      | none => simp [Conv.bytesToString, Sem.run_pure]; rfl
      | some x =>
        have := run_bytesToString (P := E.P) w x q.l.length cap [] (by rw [hlen]; simpa using run_loadCells_list (P := E.P) w x [] (by simp))
        rw [this]; rfl
    · have hds := map_enc_int ok e1 h3
      subst hds
      have := run_bytesToString (P := E.P) w ⟨B, off, .none⟩ q.l.length cap ns (by
        rw [hlen]
        have := run_loadCells_list (P := E.P) w ⟨B, off, .none⟩ (ns.map (.int .u8)) (fun j v hj => by rw [Addr.add_eq]; exact h4 j v hj)
        simpa using this)
      rw [this, foldl_push]
      simp [bytesOf, ByteArray.empty, ByteArray.emptyWithCapacity]
      try rfl
  refine Ops.pure R (u := .string (bytesOf ns)) ?_ (RT.of_rv (.mk1 (.str .nil) rfl rfl))
  simp only [execOp, ho, h1, Sem.run_bind, run_convert_bytes_string w t d q.c a' q.l.length cap (under_sl ok t1) hu2 hu, hrun, Result.andThen_ok]
  rfl
end
end Go.V
