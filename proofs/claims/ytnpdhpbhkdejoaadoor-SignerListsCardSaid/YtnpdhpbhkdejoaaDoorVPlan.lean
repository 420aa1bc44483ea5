/- V: whatever the plan says of an operation comes about. -/
import Derived.Test.YtnpdhpbhkdejoaaDoorVOpsD
set_option linter.unusedVariables false
set_option linter.unusedSimpArgs false
namespace Go.V
variable {U : Nat → Type}
section
variable {E : Env U} {w : World} {St : Bool → Nat → Prop} {ι : Nat → Option Value} {s : S U} {N : Nat} {a : Act} {b : Nat} {o : Oper}

theorem cond_done {c : Bool} {p : Plan U} {pre rd wr v} (h : cond c p .bad = .done pre rd wr v) : c = true ∧ p = .done pre rd wr v := by
  cases c
  · simp at h
  · exact ⟨rfl, h⟩
theorem cond_done' {c : Bool} {p : Plan U} {pre rd wr v} (h : cond c .bad p = .done pre rd wr v) : c = false ∧ p = .done pre rd wr v := by
  cases c
  · exact ⟨rfl, h⟩
  · simp at h

theorem plan_call (ok : EnvOk2 E) (R : Rel E s N a.tmps w ι St) (hb : ι b = none) (hd : isLive (s.h b) = false) {c : Call} (hop : o.op = .call c) {pre rd wr v} (hp : callV E s b c = .done pre rd wr v) (hq : ∀ p, pre = some p → p) : Ops E s N a w ι St b o wr v := by
  unfold callV at hp
  cases hc : c.callee with
  | value f =>
    exfalso
    revert hp
    simp only [hc, Bool.cond_eq_ite]
    intro hp
    (repeat' split at hp) <;> cases hp
  | invoke r m => simp only [hc] at hp; simp at hp
  | builtin bi =>
    simp only [hc] at hp
    cases bi <;> first | (simp at hp; done) | skip
    case append =>
      dsimp only at hp
      split at hp
      · rename_i x y t u h1 h2
        unfold appendV at hp
        split at hp
        · rename_i e hte
          split at hp
          · rename_i q hcont
            have hsrc := content_src ok R (ev_ok ok R u y) hte hcont
            cases hx : s.ev E t x with
            | nils k =>
              simp only [hx] at hp
              have hp2 := cond_done hp
              clear hp
              obtain ⟨g1, hp⟩ := hp2
              split at hp
              · rename_i hqc
                obtain ⟨qr, qc, ql⟩ := q
                simp only at hqc
                subst hqc
                simp only [Plan.done.injEq] at hp
                obtain ⟨rfl, -, rfl, rfl⟩ := hp
                exact op_append_nils ok R hb hd hc hop h1 h2 g1 hx hsrc (hq _ rfl)
              · simp at hp
            | clip g k lx =>
              simp only [hx] at hp
              have hp2 := cond_done hp
              clear hp
              obtain ⟨g1, hp⟩ := hp2
              split at hp
              · rename_i hqc
                obtain ⟨qr, qc, ql⟩ := q
                simp only at hqc
                subst hqc
                simp only [Plan.done.injEq] at hp
                obtain ⟨rfl, -, rfl, rfl⟩ := hp
                exact op_append_clip ok R hb hd hc hop h1 h2 g1 hx hsrc (hq _ rfl).1 (hq _ rfl).2
              · simp at hp
            | own m =>
              simp only [hx] at hp
              cases hm : s.h m with
              | lst k lx =>
                simp only [hm] at hp
                have hp2 := cond_done hp
                clear hp
                obtain ⟨g1, hp⟩ := hp2
                split at hp
                · rename_i hqc
                  obtain ⟨qr, qc, ql⟩ := q
                  simp only at hqc
                  subst hqc
                  simp only [Plan.done.injEq] at hp
                  obtain ⟨rfl, -, rfl, rfl⟩ := hp
                  exact op_append_own ok R hb hd hc hop h1 h2 g1 hx hm hsrc (hq _ rfl)
                · simp at hp
              | _ => simp [hm] at hp
            | _ => simp [hx] at hp
          · simp at hp
        · simp at hp
      · simp at hp
    case copy =>
      dsimp only at hp
      split at hp
      · rename_i x y t u h1 h2
        unfold copyV at hp
        split at hp
        · rename_i e cq m p c n i len hte hcq hx
          split at hp
          · rename_i q hm
            split at hp
            · rename_i c' n' l hg
              split at hp
              · rename_i hcc
                have hp2 := cond_done hp
                clear hp
                obtain ⟨h3, hp⟩ := hp2
                simp only [Bool.and_eq_true] at h3
                obtain ⟨h3, h4, h5⟩ := h3
                have h4 := Nat.eq_of_beq_eq_true h4
                have h5 := Nat.eq_of_beq_eq_true h5
                subst h5
                subst h4
                split at hp
                · rename_i a' hs
                  simp only [Plan.done.injEq] at hp
                  obtain ⟨rfl, -, rfl, rfl⟩ := hp
                  have e1 : cq.l.length = (hcc ▸ cq.l : List (U c)).length := by
                    obtain ⟨qr, qc, ql⟩ := cq
                    simp only at hcc
                    subst hcc
                    rfl
                  rw [e1] at hs ⊢
                  exact op_copy ok R hc hop h1 h2 hx h3 hm hg hcq ⟨hcc, rfl⟩ hs
                · simp at hp
              · simp at hp
            · simp at hp
          · simp at hp
        · simp at hp
      · simp at hp
    case max =>
      dsimp only at hp
      split at hp
      · rename_i k n hf
        simp only [Plan.done.injEq] at hp
        obtain ⟨rfl, -, rfl, rfl⟩ := hp
        exact op_fold ok R hop (.inl ⟨hc, hf⟩)
      · simp at hp
    case min =>
      dsimp only at hp
      split at hp
      · rename_i k n hf
        simp only [Plan.done.injEq] at hp
        obtain ⟨rfl, -, rfl, rfl⟩ := hp
        exact op_fold ok R hop (.inr ⟨hc, hf⟩)
      · simp at hp
    case len =>
      dsimp only at hp
      split at hp
      · rename_i x t r h1 h2
        have hw : wr = [] ∧ pre = none := by
          unfold lenV at hp
          repeat' split at hp
          all_goals simp at hp
          all_goals exact ⟨hp.2.2.1.symm ▸ rfl, hp.1.symm ▸ rfl⟩
        obtain ⟨rfl, rfl⟩ := hw
        exact op_len ok R hc hop h1 (by rw [h2]; rfl) (by rw [h2]; simp) hp
      · simp at hp

theorem eqP_form (op : BinOp) (r : Option Bool) : eqP (U := U) op r = .bad ∨ ∃ c, eqP (U := U) op r = .done none [] [] (.bool c) := by
  cases r with
  | none => exact .inl rfl
  | some r => cases op <;> first | exact .inl rfl | exact .inr ⟨_, rfl⟩
theorem eqP_any {op : BinOp} {r : Option Bool} {q : Prop} {rd : List Nat} {neg : Bool} : eqP (U := U) op r ≠ .any q rd neg := by
  rcases eqP_form (U := U) op r with h | ⟨c, h⟩ <;> rw [h] <;> simp
theorem eqP_call {op : BinOp} {r : Option Bool} {f : FuncId} {args : List (A U)} {look : List Nat} : eqP (U := U) op r ≠ .call f args look := by
  rcases eqP_form (U := U) op r with h | ⟨c, h⟩ <;> rw [h] <;> simp
theorem eqP_yield {op : BinOp} {r : Option Bool} {n : Nat} {f : FuncId} {id : Nat} {vals args : List (A U)} {look : List Nat} : eqP (U := U) op r ≠ .yield n f id vals args look := by
  rcases eqP_form (U := U) op r with h | ⟨c, h⟩ <;> rw [h] <;> simp
theorem nilV_done {op : BinOp} {t : TypeId} {u : A U} {c : Nat} {y : Operand} {pre rd wr v} : nilV E s op t u c y ≠ .done pre rd wr v := by
  unfold nilV
  simp only [Bool.cond_eq_ite]
  intro h
  (repeat' split at h) <;> cases h

theorem plan_slice (ok : EnvOk2 E) (R : Rel E s N a.tmps w ι St) {t : TypeId} {x : Operand} {lo hi mx : Option Operand} (hop : o.op = .slice t x lo hi mx) {pre rd wr v} (hp : sliceV E s t (s.ev E t x) (lo.map (s.ev E 0)) (hi.map (s.ev E 0)) (mx.map (s.ev E 0)) = .done pre rd wr v) (hq : ∀ p, pre = some p → p) : Ops E s N a w ι St b o wr v := by
  unfold sliceV at hp
  split at hp
  · rename_i g c l hx hm
    have hmx : mx = none := by cases mx with | none => rfl | some m => simp at hm
    subst hmx
    have hp2 := cond_done hp
    clear hp
    obtain ⟨ht, hp⟩ := hp2
    split at hp
    · rename_i hlo hhi
      simp only [Plan.done.injEq] at hp
      obtain ⟨rfl, -, rfl, rfl⟩ := hp
      have := op_slice_ro (b := b) ok R t x lo hi hop hx ht (i := 0) (j := (l.length : Int)) (by rw [hlo]; rfl) (by rw [hhi]; rfl) (by omega) (by omega) (by omega)
      rw [show cut l (0 : Int).toNat ((l.length : Int) - 0).toNat = l by simp [cut]] at this
      exact this
    · rename_i k i hlo hhi
      simp only [Plan.done.injEq] at hp
      obtain ⟨rfl, -, rfl, rfl⟩ := hp
      obtain ⟨q1, q2⟩ := hq _ rfl
      have := op_slice_ro (b := b) ok R t x lo hi hop hx ht (i := i) (j := (l.length : Int)) (by rw [hlo]; rfl) (by rw [hhi]; rfl) q1 q2 (by omega)
      rw [show ((l.length : Int) - i).toNat = l.length - i.toNat by omega, cut_to_end] at this
      exact this
    · rename_i k j hlo hhi
      simp only [Plan.done.injEq] at hp
      obtain ⟨rfl, -, rfl, rfl⟩ := hp
      obtain ⟨q1, q2⟩ := hq _ rfl
      have := op_slice_ro (b := b) ok R t x lo hi hop hx ht (i := 0) (j := j) (by rw [hlo]; rfl) (by rw [hhi]; rfl) (by omega) q1 q2
      rw [show cut l (0 : Int).toNat (j - 0).toNat = l.take j.toNat by simp [cut]] at this
      exact this
    · rename_i k i k' j hlo hhi
      simp only [Plan.done.injEq] at hp
      obtain ⟨rfl, -, rfl, rfl⟩ := hp
      obtain ⟨q1, q2, q3⟩ := hq _ rfl
      exact op_slice_ro ok R t x lo hi hop hx ht (i := i) (j := j) (by rw [hlo]; rfl) (by rw [hhi]; rfl) q1 q2 q3
    · cases hp
  · rename_i g c l k m hx hm
    obtain ⟨mx', rfl, hmx⟩ : ∃ m', mx = some m' ∧ s.ev E 0 m' = .int k m := by
      cases mx with
      | none => simp at hm
      | some m' => exact ⟨m', rfl, by simpa using hm⟩
    have hp2 := cond_done hp
    clear hp
    obtain ⟨ht, hp⟩ := hp2
    split at hp
    · rename_i k' j i hhi hlo
      obtain ⟨hi', rfl, hhi'⟩ : ∃ h', hi = some h' ∧ s.ev E 0 h' = .int k' j := by
        cases hi with
        | none => simp at hhi
        | some h' => exact ⟨h', rfl, by simpa using hhi⟩
      simp only [Plan.done.injEq] at hp
      obtain ⟨rfl, -, rfl, rfl⟩ := hp
      obtain ⟨q1, q2, q3, q4⟩ := hq _ rfl
      exact op_slice_clip ok R t x lo hi' mx' hop hx ht hlo hhi' (by rw [hmx, q3]) q1 q2 q4
    · cases hp
  · rename_i g c l i p hx hm
    have hmx : mx = none := by cases mx with | none => rfl | some m => simp at hm
    subst hmx
    split at hp
    · rename_i n e ht hlo hhi
      have hlo' : lo = none := by cases lo with | none => rfl | some m => simp at hlo
      have hhi' : hi = none := by cases hi with | none => rfl | some m => simp at hhi
      subst hlo'; subst hhi'
      split at hp
      · rename_i e' n' r hr
        have hp2 := cond_done hp
        clear hp
        obtain ⟨h1, hp⟩ := hp2
        simp only [Bool.and_eq_true, Bool.not_eq_true'] at h1
        have e1 := Nat.eq_of_beq_eq_true h1.1
        have e2 := Nat.eq_of_beq_eq_true h1.2.1
        subst e1; subst e2
        simp only [Plan.done.injEq] at hp
        obtain ⟨rfl, -, rfl, rfl⟩ := hp
        exact op_slice_rp ok R t x hop hx ht h1.2.2 hr
      · cases hp
    · cases hp
  · rename_i m hx hm
    have hmx : mx = none := by cases mx with | none => rfl | some m => simp at hm
    subst hmx
    split at hp
    · rename_i c l hl
      have hp2 := cond_done hp
      clear hp
      obtain ⟨h1, hp⟩ := hp2
      split at hp
      · rename_i i j hlo hhi
        simp only [Plan.done.injEq] at hp
        obtain ⟨rfl, -, rfl, rfl⟩ := hp
        obtain ⟨q1, q2, q3⟩ := hq _ rfl
        exact op_slice_own ok R t x lo hi hop hx (.inl hl) h1 hlo hhi q1 q2 q3
      · cases hp
    · rename_i c l hl
      have hp2 := cond_done hp
      clear hp
      obtain ⟨h1, hp⟩ := hp2
      split at hp
      · rename_i i j hlo hhi
        simp only [Plan.done.injEq] at hp
        obtain ⟨rfl, -, rfl, rfl⟩ := hp
        obtain ⟨q1, q2, q3⟩ := hq _ rfl
        exact op_slice_own ok R t x lo hi hop hx (.inr hl) h1 hlo hhi q1 q2 q3
      · cases hp
    · cases hp
  · rename_i m c k len hx hm
    have hmx : mx = none := by cases mx with | none => rfl | some m => simp at hm
    subst hmx
    split at hp
    · rename_i c' l hl
      have hp2 := cond_done hp
      clear hp
      obtain ⟨h1, hp⟩ := hp2
      simp only [Bool.and_eq_true] at h1
      have e1 := Nat.eq_of_beq_eq_true h1.2
      subst e1
      split at hp
      · rename_i i j hlo hhi
        simp only [Plan.done.injEq] at hp
        obtain ⟨rfl, -, rfl, rfl⟩ := hp
        obtain ⟨q1, q2, q3⟩ := hq _ rfl
        exact op_slice_sub ok R t x lo hi hop hx hl h1.1 hlo hhi q1 q2 q3
      · cases hp
    · cases hp
  · rename_i m p hx hm
    have hmx : mx = none := by cases mx with | none => rfl | some m => simp at hm
    subst hmx
    split at hp
    · rename_i n e q i ht hbox hlo
      split at hp
      · rename_i j hhi
        have hp2 := cond_done' hp
        clear hp
        obtain ⟨h1, hp⟩ := hp2
        simp only [Plan.done.injEq] at hp
        obtain ⟨rfl, -, rfl, rfl⟩ := hp
        obtain ⟨q1, q2, q3⟩ := hq _ rfl
        exact op_slice_box ok R t x lo hi hop hx hbox ht h1 hlo hhi q1 q2 q3
      · cases hp
    · cases hp
  · cases hp

theorem plan_sound (ok : EnvOk2 E) (R : Rel E s N a.tmps w ι St) (hb : ι b = none) (hd : isLive (s.h b) = false) {pre rd wr v} (hp : plan E b o s = .done pre rd wr v) (hq : ∀ p, pre = some p → p) : Ops E s N a w ι St b o wr v := by
  cases hop : o.op with
  | move x =>
    simp only [plan, hop, Plan.done.injEq] at hp
    obtain ⟨-, -, rfl, rfl⟩ := hp
    exact op_move ok R x (.inl hop)
  | assign x =>
    simp only [plan, hop, Plan.done.injEq] at hp
    obtain ⟨-, -, rfl, rfl⟩ := hp
    exact op_move ok R x (.inr hop)
  | pick c x y =>
    simp only [plan, hop] at hp
    cases hc : s.ev E 0 c with
    | bool q =>
      simp only [hc, Plan.done.injEq] at hp
      obtain ⟨-, -, rfl, rfl⟩ := hp
      exact op_pick ok R c x y hop hc
    | _ => simp [hc] at hp
  | alloc t =>
    simp only [plan, hop] at hp
    have hk : known (zero E t) = true ∧ Plan.done none [] [(b, .box (zero E t))] (.ptr b []) = .done pre rd wr v := by
      split at hp
      · simp at hp
      · rename_i hz
        refine ⟨?_, hp⟩
        simp only [zero] at hz ⊢
        cases ht : E.ty t <;> simp [zeroA, ht, known] at hz ⊢
    simp only [Plan.done.injEq] at hk
    obtain ⟨hk, -, -, rfl, rfl⟩ := hk
    exact op_alloc ok R hb hd t hop hk
  | box t x =>
    simp only [plan, hop] at hp
    have hp2 := cond_done hp
    clear hp
    obtain ⟨h1, hp⟩ := hp2
    simp only [Plan.done.injEq] at hp
    obtain ⟨-, -, rfl, rfl⟩ := hp
    exact op_box ok R hb hd t x hop (fits_iff h1).1
  | load t x =>
    simp only [plan, hop] at hp
    cases hx : s.ev E 0 x with
    | ptr n p =>
      simp only [hx] at hp
      have hp2 := cond_done hp
      clear hp
      obtain ⟨h1, hp⟩ := hp2
      simp only [Plan.done.injEq] at hp
      obtain ⟨-, -, rfl, rfl⟩ := hp
      exact op_load ok R t x hop hx h1
    | rp g c l i p =>
      simp only [hx] at hp
      have hp2 := cond_done hp
      clear hp
      obtain ⟨h1, hp⟩ := hp2
      simp only [Plan.done.injEq] at hp
      obtain ⟨-, -, rfl, rfl⟩ := hp
      exact op_load_rp ok R t x hop hx h1
    | _ => simp [hx] at hp
  | store t x y =>
    simp only [plan, hop] at hp
    cases hx : s.ev E 0 x with
    | ptr n p =>
      simp only [hx] at hp
      cases hn : s.h n with
      | box q =>
        simp only [hn] at hp
        have hp2 := cond_done hp
        clear hp
        obtain ⟨h1, hp⟩ := hp2
        cases hs : setP E q p (s.ev E t y) with
        | none => simp [hs] at hp
        | some q' =>
          simp only [hs, Plan.done.injEq] at hp
          obtain ⟨-, -, rfl, rfl⟩ := hp
          exact op_store_box ok R t x y hop hx hn h1 hs
      | lst c l =>
        simp only [hn] at hp
        have hp2 := cond_done hp
        clear hp
        obtain ⟨h1, hp⟩ := hp2
        simp only [Bool.and_eq_true, Bool.not_eq_true'] at h1
        cases hs : setO E (.lst c l) p (frz s.h (s.ev E t y)) with
        | none => simp [hs] at hp
        | some o' =>
          simp only [hs, Plan.done.injEq] at hp
          obtain ⟨-, -, rfl, rfl⟩ := hp
          exact op_store_lst ok R t x y hop hx hn h1.1.1 h1.1.2 h1.2 hs
      | _ => simp [hn] at hp
    | _ => simp [hx] at hp
  | fieldAddr t x k =>
    simp only [plan, hop] at hp
    cases hx : s.ev E 0 x with
    | ptr n p =>
      cases ht : E.ty t with
      | st fs =>
        simp only [hx, ht] at hp
        cases hf : fieldAt fs k with
        | none => simp [hf] at hp
        | some f =>
          simp only [hf] at hp
          have hp2 := cond_done' hp
          clear hp
          obtain ⟨h1, hp⟩ := hp2
          simp only [Plan.done.injEq] at hp
          obtain ⟨-, -, rfl, rfl⟩ := hp
          exact op_fieldAddr ok R t x k hop hx ht hf h1
      | _ => simp [hx, ht] at hp
    | rp g c l i p =>
      cases ht : E.ty t with
      | st fs =>
        simp only [hx, ht] at hp
        cases hf : fieldAt fs k with
        | none => simp [hf] at hp
        | some f =>
          simp only [hf] at hp
          have hp2 := cond_done' hp
          clear hp
          obtain ⟨h1, hp⟩ := hp2
          simp only [Plan.done.injEq] at hp
          obtain ⟨-, -, rfl, rfl⟩ := hp
          exact op_fieldAddr_rp ok R t x k hop hx ht hf h1
      | _ => simp [hx, ht] at hp
    | _ => simp [hx] at hp
  | field t x k =>
    simp only [plan, hop] at hp
    cases hx : s.ev E 0 x with
    | agg l =>
      cases ht : E.ty t with
      | st fs =>
        simp only [hx, ht] at hp
        cases hf : fieldAt fs k with
        | none => simp [hf] at hp
        | some f =>
          simp only [hf] at hp
          have hp2 := cond_done hp
          clear hp
          obtain ⟨h1, hp⟩ := hp2
          simp only [Plan.done.injEq] at hp
          obtain ⟨-, -, rfl, rfl⟩ := hp
          exact op_field ok R t x k hop hx ht hf h1
      | _ => simp [hx, ht] at hp
    | _ => simp [hx] at hp
  | indexAddr t x i =>
    simp only [plan, hop] at hp
    cases hi : s.ev E 0 i with
    | int k n =>
      simp only [hi] at hp
      cases hx : s.ev E t x with
      | own m =>
        simp only [hx] at hp
        cases hm : s.h m with
        | lst c l =>
          simp only [hm] at hp
          have hp2 := cond_done hp
          clear hp
          obtain ⟨h1, hp⟩ := hp2
          simp only [Plan.done.injEq] at hp
          obtain ⟨rfl, -, rfl, rfl⟩ := hp
          exact op_index_own ok R t x i hop hi hx (.inl hm) h1 (hq _ rfl).1 (hq _ rfl).2
        | fz c l =>
          simp only [hm] at hp
          have hp2 := cond_done hp
          clear hp
          obtain ⟨h1, hp⟩ := hp2
          simp only [Plan.done.injEq] at hp
          obtain ⟨rfl, -, rfl, rfl⟩ := hp
          exact op_index_own ok R t x i hop hi hx (.inr hm) h1 (hq _ rfl).1 (hq _ rfl).2
        | _ => simp [hm] at hp
      | ro g c l =>
        simp only [hx] at hp
        have hp2 := cond_done hp
        clear hp
        obtain ⟨h1, hp⟩ := hp2
        simp only [Plan.done.injEq] at hp
        obtain ⟨rfl, -, rfl, rfl⟩ := hp
        exact op_index_ro ok R t x i hop hi (.inl hx) h1 (hq _ rfl).1 (hq _ rfl).2
      | clip g c l =>
        simp only [hx] at hp
        have hp2 := cond_done hp
        clear hp
        obtain ⟨h1, hp⟩ := hp2
        simp only [Plan.done.injEq] at hp
        obtain ⟨rfl, -, rfl, rfl⟩ := hp
        exact op_index_ro ok R t x i hop hi (.inr hx) h1 (hq _ rfl).1 (hq _ rfl).2
      | sub m c j len =>
        simp only [hx] at hp
        cases hm : s.h m with
        | lst c' l =>
          simp only [hm] at hp
          have hp2 := cond_done hp
          clear hp
          obtain ⟨h1, hp⟩ := hp2
          simp only [Bool.and_eq_true] at h1
          have := Nat.eq_of_beq_eq_true h1.2
          subst this
          simp only [Plan.done.injEq] at hp
          obtain ⟨rfl, -, rfl, rfl⟩ := hp
          exact op_index_sub ok R t x i hop hi hx (.inl hm) h1.1 (hq _ rfl).1 (hq _ rfl).2
        | fz c' l =>
          simp only [hm] at hp
          have hp2 := cond_done hp
          clear hp
          obtain ⟨h1, hp⟩ := hp2
          simp only [Bool.and_eq_true] at h1
          have := Nat.eq_of_beq_eq_true h1.2
          subst this
          simp only [Plan.done.injEq] at hp
          obtain ⟨rfl, -, rfl, rfl⟩ := hp
          exact op_index_sub ok R t x i hop hi hx (.inr hm) h1.1 (hq _ rfl).1 (hq _ rfl).2
        | _ => simp [hm] at hp
      | bsl m p c M j len =>
        simp only [hx] at hp
        have hp2 := cond_done hp
        clear hp
        obtain ⟨h1, hp⟩ := hp2
        simp only [Plan.done.injEq] at hp
        obtain ⟨rfl, -, rfl, rfl⟩ := hp
        exact op_index_bsl ok R t x i hop hi hx h1 (hq _ rfl).1 (hq _ rfl).2
      | ptr m p =>
        simp only [hx] at hp
        cases ht : E.ty t with
        | arr L e =>
          (try simp only [ht] at hp)
          have hp2 := cond_done' hp
          clear hp
          obtain ⟨h1, hp⟩ := hp2
          simp only [Plan.done.injEq] at hp
          obtain ⟨rfl, -, rfl, rfl⟩ := hp
          exact op_index_arr ok R t x i hop hi hx ht h1 (hq _ rfl).1 (hq _ rfl).2
        | _ => simp [ht] at hp
      | rp g c l j p =>
        simp only [hx] at hp
        cases ht : E.ty t with
        | arr L e =>
          (try simp only [ht] at hp)
          have hp2 := cond_done' hp
          clear hp
          obtain ⟨h1, hp⟩ := hp2
          simp only [Plan.done.injEq] at hp
          obtain ⟨rfl, -, rfl, rfl⟩ := hp
          exact op_index_rparr ok R t x i hop hi hx ht h1 (hq _ rfl).1 (hq _ rfl).2
        | _ => simp [ht] at hp
      | _ => simp [hx] at hp
    | _ => simp [hi] at hp
  | index t x i =>
    simp only [plan, hop] at hp
    cases hi : s.ev E 0 i with
    | int k n =>
      cases hx : s.ev E t x with
      | arr c M l =>
        simp only [hi, hx] at hp
        cases ht : E.ty t with
        | arr M' c' =>
          (try simp only [ht] at hp)
          have hp2 := cond_done hp
          clear hp
          obtain ⟨h1, hp⟩ := hp2
          simp only [Bool.and_eq_true] at h1
          have e1 := Nat.eq_of_beq_eq_true h1.1
          have e2 := Nat.eq_of_beq_eq_true h1.2.1
          subst e1; subst e2
          simp only [Plan.done.injEq] at hp
          obtain ⟨rfl, -, rfl, rfl⟩ := hp
          exact op_index_val ok R t x i hop hi hx ht h1.2.2 (hq _ rfl).1 (hq _ rfl).2
        | _ => simp [ht] at hp
      | str g =>
        simp only [hi, hx] at hp
        cases ht : E.ty t with
        | str =>
          simp only [ht, Plan.done.injEq] at hp
          obtain ⟨rfl, -, rfl, rfl⟩ := hp
          exact op_index_str ok R t x i hop hi hx ht (hq _ rfl).1 (hq _ rfl).2
        | _ => simp [ht] at hp
      | _ => simp [hi, hx] at hp
    | _ => simp [hi] at hp
  | binOp op t x y ty =>
    simp only [plan, hop] at hp
    have eqd : cond (plainTy (E.ty t)) .bad (eqP op (eqV E 20 t (s.ev E t x) (s.ev E ty y))) = .done pre rd wr v → Ops E s N a w ι St b o wr v := by
      intro hp
      obtain ⟨h1, hp⟩ := cond_done' hp
      cases he : eqV E 20 t (s.ev E t x) (s.ev E ty y) with
      | none => rw [he] at hp; simp [eqP] at hp
      | some r =>
        rw [he] at hp
        cases op <;> first | (simp [eqP] at hp; done) | skip
        · simp only [eqP, Plan.done.injEq] at hp
          obtain ⟨rfl, -, rfl, rfl⟩ := hp
          exact op_eq ok R _ t ty x y hop h1 he (.inl ⟨rfl, rfl⟩)
        · simp only [eqP, Plan.done.injEq] at hp
          obtain ⟨rfl, -, rfl, rfl⟩ := hp
          exact op_eq ok R _ t ty x y hop h1 he (.inr ⟨rfl, rfl⟩)
    cases hx : s.ev E t x with
    | int k n =>
      cases hy : s.ev E ty y with
      | int k' m =>
        simp only [hx, hy] at hp
        cases op with
        | shl =>
          simp only [Plan.done.injEq] at hp
          obtain ⟨rfl, -, rfl, rfl⟩ := hp
          exact op_shift ok R _ t ty x y hop hx hy (hq _ rfl) (.inl ⟨rfl, rfl⟩)
        | shr =>
          simp only [Plan.done.injEq] at hp
          obtain ⟨rfl, -, rfl, rfl⟩ := hp
          exact op_shift ok R _ t ty x y hop hx hy (hq _ rfl) (.inr ⟨rfl, rfl⟩)
        | _ =>
          dsimp only at hp
          have hp2 := cond_done hp
          clear hp
          obtain ⟨h1, hp⟩ := hp2
          have h1 := of_decide_eq_true h1
          subst h1
          split at hp
          · rename_i q u hio
            simp only [Plan.done.injEq] at hp
            obtain ⟨rfl, -, rfl, rfl⟩ := hp
            exact op_int ok R _ t ty x y hop hx hy hio hq
          · simp at hp
      | nils c => simp only [hx, hy] at hp; exact absurd hp nilV_done
      | _ => simp only [hx, hy] at hp; exact eqd (by rw [hx, hy]; exact hp)
    | str g =>
      cases hy : s.ev E ty y with
      | str g' =>
        simp only [hx, hy] at hp
        split at hp
        · rename_i q u hio
          simp only [Plan.done.injEq] at hp
          obtain ⟨rfl, -, rfl, rfl⟩ := hp
          exact op_str ok R _ t ty x y hop hx hy hio hq
        · simp at hp
      | nils c => simp only [hx, hy] at hp; exact absurd hp nilV_done
      | _ => simp only [hx, hy] at hp; exact eqd (by rw [hx, hy]; exact hp)
    | bool p =>
      cases hy : s.ev E ty y with
      | bool q =>
        simp only [hx, hy] at hp
        split at hp
        · rename_i ht
          simp only [Plan.done.injEq] at hp
          obtain ⟨rfl, -, rfl, rfl⟩ := hp
          exact op_eq_bool ok R _ t ty x y hop ht hx hy (.inl ⟨rfl, rfl⟩)
        · rename_i ht
          simp only [Plan.done.injEq] at hp
          obtain ⟨rfl, -, rfl, rfl⟩ := hp
          exact op_eq_bool ok R _ t ty x y hop ht hx hy (.inr ⟨rfl, rfl⟩)
        · simp at hp
      | nils c => simp only [hx, hy] at hp; exact absurd hp nilV_done
      | _ => simp only [hx, hy] at hp; exact eqd (by rw [hx, hy]; exact hp)
    | _ => cases hy : s.ev E ty y <;> first | (simp only [hx, hy] at hp; exact absurd hp nilV_done) | (simp only [hx, hy] at hp; exact eqd (by rw [hx, hy]; exact hp))
  | unOp op t x =>
    simp only [plan, hop] at hp
    cases op with
    | not =>
      cases hx : s.ev E 0 x with
      | bool q =>
        simp only [hx, Plan.done.injEq] at hp
        obtain ⟨-, -, rfl, rfl⟩ := hp
        exact op_not ok R t x hop hx
      | _ => simp [hx] at hp
    | neg =>
      cases hx : s.ev E 0 x with
      | int k n =>
        simp only [hx, Plan.done.injEq] at hp
        obtain ⟨-, -, rfl, rfl⟩ := hp
        exact op_neg ok R t x hop hx
      | _ => simp [hx] at hp
    | xor =>
      cases hx : s.ev E 0 x with
      | int k n =>
        simp only [hx, Plan.done.injEq] at hp
        obtain ⟨-, -, rfl, rfl⟩ := hp
        exact op_xor ok R t x hop hx
      | _ => simp [hx] at hp
    | plus => simp at hp
  | convert t d x =>
    simp only [plan, hop] at hp
    have hp2 := cond_done' hp
    clear hp
    obtain ⟨h1, hp⟩ := hp2
    have hs : E.ty t ≠ .no := fun e => by rw [e] at h1; simp [isNo] at h1
    unfold convV at hp
    split at hp
    · rename_i k k' n h2 h3
      simp only [Plan.done.injEq] at hp
      obtain ⟨-, -, rfl, rfl⟩ := hp
      exact op_conv_int ok R t d x hop h2 hs h3
    · rename_i g h2 h3
      simp only [Plan.done.injEq] at hp
      obtain ⟨-, -, rfl, rfl⟩ := hp
      exact op_conv_str ok R t d x hop h2 hs h3
    · rename_i y h2 h3
      split at hp
      · rename_i q hq
        have hp2 := cond_done hp
        clear hp
        obtain ⟨h4, hp⟩ := hp2
        split at hp
        · rename_i g hg
          simp only [Plan.done.injEq] at hp
          obtain ⟨-, -, rfl, rfl⟩ := hp
          exact op_bytes_str ok R t d x hop h2 hq h4 hg
        · simp at hp
      · simp at hp
    · rename_i e g h2 h3
      split at hp
      · rename_i l ht hl
        simp only [Plan.done.injEq] at hp
        obtain ⟨-, -, rfl, rfl⟩ := hp
        exact op_str_bytes ok R hb hd t d x hop h2 ht h3 hl
      · simp at hp
    · simp at hp
  | makeFunc f first caps =>
    cases f with
    | func f =>
      simp only [plan, hop] at hp
      have hp2 := cond_done hp
      clear hp
      obtain ⟨h1, hp⟩ := hp2
      simp only [Bool.and_eq_true, List.all_eq_true] at h1
      simp only [Plan.done.injEq] at hp
      obtain ⟨-, -, rfl, rfl⟩ := hp
      exact op_makeFunc ok R f first caps hop h1.1 (fun x hx => h1.2 _ (List.mem_map.2 ⟨x, hx, rfl⟩))
    | _ => simp [plan, hop] at hp
  | nilCheck x =>
    simp only [plan, hop] at hp
    split at hp
    · rename_i n p hx
      simp only [Plan.done.injEq] at hp
      obtain ⟨-, -, rfl, rfl⟩ := hp
      rw [← hx]
      exact op_nilCheck ok R x hop (.inl ⟨n, p, hx⟩)
    · rename_i g c l i p hx
      simp only [Plan.done.injEq] at hp
      obtain ⟨-, -, rfl, rfl⟩ := hp
      rw [← hx]
      exact op_nilCheck ok R x hop (.inr (.inl ⟨g, c, l, i, p, hx⟩))
    · rename_i f l hx
      simp only [Plan.done.injEq] at hp
      obtain ⟨-, -, rfl, rfl⟩ := hp
      rw [← hx]
      exact op_nilCheck ok R x hop (.inr (.inr ⟨f, l, hx⟩))
    · simp at hp
  | extract x i =>
    simp only [plan, hop] at hp
    cases hx : s.ev E 0 x with
    | tup l =>
      simp only [hx] at hp
      have hp2 := cond_done hp
      clear hp
      obtain ⟨h1, hp⟩ := hp2
      simp only [Plan.done.injEq] at hp
      obtain ⟨-, -, rfl, rfl⟩ := hp
      exact op_extract ok R x i hop hx (Nat.le_of_ble_eq_true h1)
    | _ => simp [hx] at hp
  | build t ps =>
    simp only [plan, hop] at hp
    cases hz : zero E t with
    | agg z =>
      cases ht : E.ty t with
      | st fs =>
        simp only [hz, ht] at hp
        have hp2 := cond_done hp
        clear hp
        obtain ⟨h1, hp⟩ := hp2
        split at hp
        · rename_i l hs
          simp only [Plan.done.injEq] at hp
          obtain ⟨-, -, rfl, rfl⟩ := hp
          obtain ⟨g1, g2⟩ := fieldsFit_iff fs z 0 h1
          exact op_build_st ok R t ps hop hz ht (fun k hk => by obtain ⟨f, f1, f2, f3, f4⟩ := g2 k hk; exact ⟨f, f1, by omega, f3, f4⟩) g1 (fieldTy fs) hs
        · simp at hp
      | _ => simp [hz, ht] at hp
    | arr c n z =>
      cases ht : E.ty t with
      | arr n' c' =>
        simp only [hz, ht] at hp
        have hp2 := cond_done hp
        clear hp
        obtain ⟨h1, hp⟩ := hp2
        simp only [Bool.and_eq_true] at h1
        have e1 := Nat.eq_of_beq_eq_true h1.1
        have e2 := Nat.eq_of_beq_eq_true h1.2
        subst e1; subst e2
        split at hp
        · rename_i l hs
          split at hp
          · rename_i xs hx
            have hp2 := cond_done' hp
            clear hp
            obtain ⟨h2, hp⟩ := hp2
            simp only [Bool.or_eq_false_iff] at h2
            simp only [Plan.done.injEq] at hp
            obtain ⟨-, -, rfl, rfl⟩ := hp
            exact op_build_arr ok R t ps hop hz ht hs hx h2.1 (by simp [h2.2.1, h2.2.2])
          · simp at hp
        · simp at hp
      | _ => simp [hz, ht] at hp
    | _ => simp [hz] at hp
  | buildSlice t n ps =>
    simp only [plan, hop] at hp
    cases ht : E.ty t with
    | sl e =>
      simp only [ht] at hp
      cases hz : (Nat.beq n 0 && ps.toList.isEmpty) with
      | true =>
        rw [hz] at hp
        simp only [cond_true] at hp
        have hp2 := cond_done' hp
        clear hp
        obtain ⟨h2, hp⟩ := hp2
        simp only [Plan.done.injEq] at hp
        obtain ⟨-, -, rfl, rfl⟩ := hp
        simp only [Bool.and_eq_true, List.isEmpty_iff] at hz
        exact op_buildSlice0 ok R hb hd t e n ps hop ht h2 (Nat.eq_of_beq_eq_true hz.1) hz.2
      | false =>
      rw [hz] at hp
      simp only [cond_false] at hp
      split at hp
      · rename_i l hs
        split at hp
        · rename_i xs hx
          have hp2 := cond_done' hp
          clear hp
          obtain ⟨h2, hp⟩ := hp2
          simp only [Bool.or_eq_false_iff] at h2
          simp only [Plan.done.injEq] at hp
          obtain ⟨-, -, rfl, rfl⟩ := hp
          exact op_buildSlice ok R hb hd t e n ps hop ht hs hx h2.1 (by simp [h2.2.1, h2.2.2.1, h2.2.2.2])
        · simp at hp
      · simp at hp
    | _ => simp [ht] at hp
  | slice t x lo hi mx =>
    simp only [plan, hop] at hp
    exact plan_slice ok R hop hp hq
  | call c =>
    simp only [plan, hop] at hp
    exact plan_call ok R hb hd hop hp hq
  | _ => simp [plan, hop] at hp
end
end Go.V
