/- V: VPlan, VCall, VCall2 -/
import Derived.Test.YtepdmpjmlfeanaaGreatDoorVJ04
/- V: whatever the plan says of an operation comes about. -/
set_option linter.unusedVariables false
set_option linter.unusedSimpArgs false
namespace Go.V
variable {U : Nat → Type}
section
variable {E : Env U} {w : World} {St : Ck U → Nat → Prop} {ι : Nat → Option Value} {s : S U} {N : Nat} {a : Act} {b : Nat} {o : Oper}

theorem cond_done {c : Bool} {p : Plan U} {pre rd wr v} (h : cond c p .bad = .done pre rd wr v) : c = true ∧ p = .done pre rd wr v := by
  cases c
  · simp at h
  · exact ⟨rfl, h⟩
theorem cond_done' {c : Bool} {p : Plan U} {pre rd wr v} (h : cond c .bad p = .done pre rd wr v) : c = false ∧ p = .done pre rd wr v := by
  cases c
  · exact ⟨rfl, h⟩
  · simp at h

theorem plan_call (ok : EnvOk2 E) (R : Rel E s N a.tmps w ι St) (hb : ι b = none) (hd : isLive (s.h b) = false) {c : Call} (hop : o.op = .call c) {pre rd wr v} (hp : callV E s b c = .done pre rd wr v) (hq : ∀ p, pre = some p → p) : Ops E s N a w ι St b o wr v := by
  unfold callV at hp
  cases hc : c.callee with
  | value f =>
    exfalso
    revert hp
    simp only [hc, Bool.cond_eq_ite]
    intro hp
    (repeat' split at hp) <;> cases hp
  | invoke r m => simp only [hc] at hp; simp at hp
  | builtin bi =>
    simp only [hc] at hp
    cases bi <;> first | (simp at hp; done) | skip
    case append =>
      dsimp only at hp
      split at hp
      · rename_i x y t u h1 h2
        unfold appendV at hp
        split at hp
        · rename_i e hte
          split at hp
          · rename_i q hcont
            have hsrc := content_src ok R (ev_ok ok R u y) hte hcont
            cases hx : s.ev E t x with
            | nils k =>
              simp only [hx] at hp
              have hp2 := cond_done hp
              clear hp
              obtain ⟨g1, hp⟩ := hp2
              split at hp
              · rename_i hqc
                obtain ⟨qr, qc, ql⟩ := q
                simp only at hqc
                subst hqc
                simp only [Plan.done.injEq] at hp
                obtain ⟨rfl, -, rfl, rfl⟩ := hp
                exact op_append_nils ok R hb hd hc hop h1 h2 g1 hx hsrc (hq _ rfl)
              · simp at hp
            | clip g k lx =>
              simp only [hx] at hp
              have hp2 := cond_done hp
              clear hp
              obtain ⟨g1, hp⟩ := hp2
              split at hp
              · rename_i hqc
                obtain ⟨qr, qc, ql⟩ := q
                simp only at hqc
                subst hqc
                simp only [Plan.done.injEq] at hp
                obtain ⟨rfl, -, rfl, rfl⟩ := hp
                exact op_append_clip ok R hb hd hc hop h1 h2 g1 hx hsrc (hq _ rfl).1 (hq _ rfl).2
              · simp at hp
            | own m =>
              simp only [hx] at hp
              cases hm : s.h m with
              | lst k lx =>
                simp only [hm] at hp
                have hp2 := cond_done hp
                clear hp
                obtain ⟨g1, hp⟩ := hp2
                split at hp
                · rename_i hqc
                  obtain ⟨qr, qc, ql⟩ := q
                  simp only at hqc
                  subst hqc
                  simp only [Plan.done.injEq] at hp
                  obtain ⟨rfl, -, rfl, rfl⟩ := hp
                  exact op_append_own ok R hb hd hc hop h1 h2 g1 hx hm hsrc (hq _ rfl)
                · simp at hp
              | _ => simp [hm] at hp
            | _ => simp [hx] at hp
          · simp at hp
        · simp at hp
      · simp at hp
    case copy =>
      dsimp only at hp
      split at hp
      · rename_i x y t u h1 h2
        unfold copyV at hp
        split at hp
        · rename_i e cq m p c n i len hte hcq hx
          split at hp
          · rename_i q hm
            split at hp
            · rename_i c' n' l hg
              split at hp
              · rename_i hcc
                have hp2 := cond_done hp
                clear hp
                obtain ⟨h3, hp⟩ := hp2
                simp only [Bool.and_eq_true] at h3
                obtain ⟨h3, h4, h5⟩ := h3
                have h4 := Nat.eq_of_beq_eq_true h4
                have h5 := Nat.eq_of_beq_eq_true h5
                subst h5
                subst h4
                split at hp
                · rename_i a' hs
                  simp only [Plan.done.injEq] at hp
                  obtain ⟨rfl, -, rfl, rfl⟩ := hp
                  have e1 : cq.l.length = (hcc ▸ cq.l : List (U c)).length := by
                    obtain ⟨qr, qc, ql⟩ := cq
                    simp only at hcc
                    subst hcc
                    rfl
                  rw [e1] at hs ⊢
                  exact op_copy ok R hc hop h1 h2 hx h3 hm hg hcq ⟨hcc, rfl⟩ hs
                · simp at hp
              · simp at hp
            · simp at hp
          · simp at hp
        · simp at hp
      · simp at hp
    case max =>
      dsimp only at hp
      split at hp
      · rename_i k n hf
        simp only [Plan.done.injEq] at hp
        obtain ⟨rfl, -, rfl, rfl⟩ := hp
        exact op_fold ok R hop (.inl ⟨hc, hf⟩)
      · simp at hp
    case min =>
      dsimp only at hp
      split at hp
      · rename_i k n hf
        simp only [Plan.done.injEq] at hp
        obtain ⟨rfl, -, rfl, rfl⟩ := hp
        exact op_fold ok R hop (.inr ⟨hc, hf⟩)
      · simp at hp
    case len =>
      dsimp only at hp
      split at hp
      · rename_i x t r h1 h2
        have hw : wr = [] ∧ pre = none := by
          unfold lenV at hp
          repeat' split at hp
          all_goals simp at hp
          all_goals exact ⟨hp.2.2.1.symm ▸ rfl, hp.1.symm ▸ rfl⟩
        obtain ⟨rfl, rfl⟩ := hw
        exact op_len ok R hc hop h1 (by rw [h2]; rfl) (by rw [h2]; simp) hp
      · simp at hp

theorem eqP_form (op : BinOp) (r : Option Bool) : eqP (U := U) op r = .bad ∨ ∃ c, eqP (U := U) op r = .done none [] [] (.bool c) := by
  cases r with
  | none => exact .inl rfl
  | some r => cases op <;> first | exact .inl rfl | exact .inr ⟨_, rfl⟩
theorem eqP_any {op : BinOp} {r : Option Bool} {q : Prop} {rd : List Nat} {neg : Bool} : eqP (U := U) op r ≠ .any q rd neg := by
  rcases eqP_form (U := U) op r with h | ⟨c, h⟩ <;> rw [h] <;> simp
theorem eqP_call {op : BinOp} {r : Option Bool} {f : FuncId} {args : List (A U)} {look : List Nat} : eqP (U := U) op r ≠ .call f args look := by
  rcases eqP_form (U := U) op r with h | ⟨c, h⟩ <;> rw [h] <;> simp
theorem eqP_yield {op : BinOp} {r : Option Bool} {n : Nat} {f : FuncId} {id : Nat} {vals args : List (A U)} {look : List Nat} : eqP (U := U) op r ≠ .yield n f id vals args look := by
  rcases eqP_form (U := U) op r with h | ⟨c, h⟩ <;> rw [h] <;> simp
theorem nilV_done {op : BinOp} {t : TypeId} {u : A U} {c : Nat} {y : Operand} {pre rd wr v} : nilV E s op t u c y ≠ .done pre rd wr v := by
  unfold nilV
  simp only [Bool.cond_eq_ite]
  intro h
  (repeat' split at h) <;> cases h

theorem plan_slice (ok : EnvOk2 E) (R : Rel E s N a.tmps w ι St) {t : TypeId} {x : Operand} {lo hi mx : Option Operand} (hop : o.op = .slice t x lo hi mx) {pre rd wr v} (hp : sliceV E s t (s.ev E t x) (lo.map (s.ev E 0)) (hi.map (s.ev E 0)) (mx.map (s.ev E 0)) = .done pre rd wr v) (hq : ∀ p, pre = some p → p) : Ops E s N a w ι St b o wr v := by
  unfold sliceV at hp
  split at hp
  · rename_i g c l hx hm
    have hmx : mx = none := by cases mx with | none => rfl | some m => simp at hm
    subst hmx
    have hp2 := cond_done hp
    clear hp
    obtain ⟨ht, hp⟩ := hp2
    split at hp
    · rename_i hlo hhi
      simp only [Plan.done.injEq] at hp
      obtain ⟨rfl, -, rfl, rfl⟩ := hp
      have := op_slice_ro (b := b) ok R t x lo hi hop hx ht (i := 0) (j := (l.length : Int)) (by rw [hlo]; rfl) (by rw [hhi]; rfl) (by omega) (by omega) (by omega)
      rw [show cut l (0 : Int).toNat ((l.length : Int) - 0).toNat = l by simp [cut]] at this
      exact this
    · rename_i k i hlo hhi
      simp only [Plan.done.injEq] at hp
      obtain ⟨rfl, -, rfl, rfl⟩ := hp
      obtain ⟨q1, q2⟩ := hq _ rfl
      have := op_slice_ro (b := b) ok R t x lo hi hop hx ht (i := i) (j := (l.length : Int)) (by rw [hlo]; rfl) (by rw [hhi]; rfl) q1 q2 (by omega)
      rw [show ((l.length : Int) - i).toNat = l.length - i.toNat by omega, cut_to_end] at this
      exact this
    · rename_i k j hlo hhi
      simp only [Plan.done.injEq] at hp
      obtain ⟨rfl, -, rfl, rfl⟩ := hp
      obtain ⟨q1, q2⟩ := hq _ rfl
      have := op_slice_ro (b := b) ok R t x lo hi hop hx ht (i := 0) (j := j) (by rw [hlo]; rfl) (by rw [hhi]; rfl) (by omega) q1 q2
      rw [show cut l (0 : Int).toNat (j - 0).toNat = l.take j.toNat by simp [cut]] at this
      exact this
    · rename_i k i k' j hlo hhi
      simp only [Plan.done.injEq] at hp
      obtain ⟨rfl, -, rfl, rfl⟩ := hp
      obtain ⟨q1, q2, q3⟩ := hq _ rfl
      exact op_slice_ro ok R t x lo hi hop hx ht (i := i) (j := j) (by rw [hlo]; rfl) (by rw [hhi]; rfl) q1 q2 q3
    · cases hp
  · rename_i g c l k m hx hm
    obtain ⟨mx', rfl, hmx⟩ : ∃ m', mx = some m' ∧ s.ev E 0 m' = .int k m := by
      cases mx with
      | none => simp at hm
      | some m' => exact ⟨m', rfl, by simpa using hm⟩
    have hp2 := cond_done hp
    clear hp
    obtain ⟨ht, hp⟩ := hp2
    split at hp
    · rename_i k' j i hhi hlo
      obtain ⟨hi', rfl, hhi'⟩ : ∃ h', hi = some h' ∧ s.ev E 0 h' = .int k' j := by
        cases hi with
        | none => simp at hhi
        | some h' => exact ⟨h', rfl, by simpa using hhi⟩
      simp only [Plan.done.injEq] at hp
      obtain ⟨rfl, -, rfl, rfl⟩ := hp
      obtain ⟨q1, q2, q3, q4⟩ := hq _ rfl
      exact op_slice_clip ok R t x lo hi' mx' hop hx ht hlo hhi' (by rw [hmx, q3]) q1 q2 q4
    · cases hp
  · rename_i g c l i p hx hm
    have hmx : mx = none := by cases mx with | none => rfl | some m => simp at hm
    subst hmx
    split at hp
    · rename_i n e ht hlo hhi
      have hlo' : lo = none := by cases lo with | none => rfl | some m => simp at hlo
      have hhi' : hi = none := by cases hi with | none => rfl | some m => simp at hhi
      subst hlo'; subst hhi'
      split at hp
      · rename_i e' n' r hr
        have hp2 := cond_done hp
        clear hp
        obtain ⟨h1, hp⟩ := hp2
        simp only [Bool.and_eq_true, Bool.not_eq_true'] at h1
        have e1 := Nat.eq_of_beq_eq_true h1.1
        have e2 := Nat.eq_of_beq_eq_true h1.2.1
        subst e1; subst e2
        simp only [Plan.done.injEq] at hp
        obtain ⟨rfl, -, rfl, rfl⟩ := hp
        exact op_slice_rp ok R t x hop hx ht h1.2.2 hr
      · cases hp
    · cases hp
  · rename_i m hx hm
    have hmx : mx = none := by cases mx with | none => rfl | some m => simp at hm
    subst hmx
    split at hp
    · rename_i c l hl
      have hp2 := cond_done hp
      clear hp
      obtain ⟨h1, hp⟩ := hp2
      split at hp
      · rename_i i j hlo hhi
        simp only [Plan.done.injEq] at hp
        obtain ⟨rfl, -, rfl, rfl⟩ := hp
        obtain ⟨q1, q2, q3⟩ := hq _ rfl
        exact op_slice_own ok R t x lo hi hop hx (.inl hl) h1 hlo hhi q1 q2 q3
      · cases hp
    · rename_i c l hl
      have hp2 := cond_done hp
      clear hp
      obtain ⟨h1, hp⟩ := hp2
      split at hp
      · rename_i i j hlo hhi
        simp only [Plan.done.injEq] at hp
        obtain ⟨rfl, -, rfl, rfl⟩ := hp
        obtain ⟨q1, q2, q3⟩ := hq _ rfl
        exact op_slice_own ok R t x lo hi hop hx (.inr hl) h1 hlo hhi q1 q2 q3
      · cases hp
    · cases hp
  · rename_i m c k len hx hm
    have hmx : mx = none := by cases mx with | none => rfl | some m => simp at hm
    subst hmx
    split at hp
    · rename_i c' l hl
      have hp2 := cond_done hp
      clear hp
      obtain ⟨h1, hp⟩ := hp2
      simp only [Bool.and_eq_true] at h1
      have e1 := Nat.eq_of_beq_eq_true h1.2
      subst e1
      split at hp
      · rename_i i j hlo hhi
        simp only [Plan.done.injEq] at hp
        obtain ⟨rfl, -, rfl, rfl⟩ := hp
        obtain ⟨q1, q2, q3⟩ := hq _ rfl
        exact op_slice_sub ok R t x lo hi hop hx hl h1.1 hlo hhi q1 q2 q3
      · cases hp
    · cases hp
  · rename_i m p hx hm
    have hmx : mx = none := by cases mx with | none => rfl | some m => simp at hm
    subst hmx
    split at hp
    · rename_i n e q i ht hbox hlo
      split at hp
      · rename_i j hhi
        have hp2 := cond_done' hp
        clear hp
        obtain ⟨h1, hp⟩ := hp2
        simp only [Plan.done.injEq] at hp
        obtain ⟨rfl, -, rfl, rfl⟩ := hp
        obtain ⟨q1, q2, q3⟩ := hq _ rfl
        exact op_slice_box ok R t x lo hi hop hx hbox ht h1 hlo hhi q1 q2 q3
      · cases hp
    · cases hp
  · cases hp

theorem plan_sound (ok : EnvOk2 E) (R : Rel E s N a.tmps w ι St) (hb : ι b = none) (hd : isLive (s.h b) = false) {pre rd wr v} (hp : plan E b o s = .done pre rd wr v) (hq : ∀ p, pre = some p → p) : Ops E s N a w ι St b o wr v := by
  cases hop : o.op with
  | move x =>
    simp only [plan, hop, Plan.done.injEq] at hp
    obtain ⟨-, -, rfl, rfl⟩ := hp
    exact op_move ok R x (.inl hop)
  | assign x =>
    simp only [plan, hop, Plan.done.injEq] at hp
    obtain ⟨-, -, rfl, rfl⟩ := hp
    exact op_move ok R x (.inr hop)
  | pick c x y =>
    simp only [plan, hop] at hp
    cases hc : s.ev E 0 c with
    | bool q =>
      simp only [hc, Plan.done.injEq] at hp
      obtain ⟨-, -, rfl, rfl⟩ := hp
      exact op_pick ok R c x y hop hc
    | _ => simp [hc] at hp
  | alloc t =>
    simp only [plan, hop] at hp
    have hk : known (zero E t) = true ∧ Plan.done none [] [(b, .box (zero E t))] (.ptr b []) = .done pre rd wr v := by
      split at hp
      · simp at hp
      · rename_i hz
        refine ⟨?_, hp⟩
        simp only [zero] at hz ⊢
        cases ht : E.ty t <;> simp [zeroA, ht, known] at hz ⊢
        cases Nat.beq t E.kn.kp <;> rfl
    simp only [Plan.done.injEq] at hk
    obtain ⟨hk, -, -, rfl, rfl⟩ := hk
    exact op_alloc ok R hb hd t hop hk
  | box t x =>
    simp only [plan, hop] at hp
    have hp2 := cond_done hp
    clear hp
    obtain ⟨h1, hp⟩ := hp2
    cases hks : Nat.beq t E.kn.ks with
    | true => rw [hks] at hp; cases hp
    | false =>
    rw [hks] at hp
    simp only [cond_false, Plan.done.injEq] at hp
    obtain ⟨-, -, rfl, rfl⟩ := hp
    exact op_box ok R hb hd t x hop (fits_iff h1).1
  | load t x =>
    simp only [plan, hop] at hp
    cases hx : s.ev E 0 x with
    | ptr n p =>
      simp only [hx] at hp
      have hp2 := cond_done hp
      clear hp
      obtain ⟨h1, hp⟩ := hp2
      simp only [Plan.done.injEq] at hp
      obtain ⟨-, -, rfl, rfl⟩ := hp
      exact op_load ok R t x hop hx h1
    | rp g c l i p =>
      simp only [hx] at hp
      have hp2 := cond_done hp
      clear hp
      obtain ⟨h1, hp⟩ := hp2
      simp only [Plan.done.injEq] at hp
      obtain ⟨-, -, rfl, rfl⟩ := hp
      exact op_load_rp ok R t x hop hx h1
    | tr c z p =>
      simp only [hx] at hp
      have hp2 := cond_done hp
      clear hp
      obtain ⟨h1, hp⟩ := hp2
      simp only [Bool.and_eq_true] at h1
      simp only [Plan.done.injEq] at hp
      obtain ⟨-, -, rfl, rfl⟩ := hp
      exact op_load_tr ok R t x hop hx h1.1 h1.2.1
    | _ => simp [hx] at hp
  | store t x y =>
    simp only [plan, hop] at hp
    cases hx : s.ev E 0 x with
    | ptr n p =>
      simp only [hx] at hp
      cases hn : s.h n with
      | box q =>
        simp only [hn] at hp
        have hp2 := cond_done hp
        clear hp
        obtain ⟨h1, hp⟩ := hp2
        simp only [Bool.and_eq_true, Bool.not_eq_true'] at h1
        cases hs : setP E q p (kconv E s.h (s.ev E t y)).1 with
        | none => simp [hs] at hp
        | some q' =>
          simp only [hs, Plan.done.injEq] at hp
          obtain ⟨-, -, rfl, rfl⟩ := hp
          exact op_store_kn ok R t x y hop hx hn h1.1 h1.2 hs
      | lst c l =>
        simp only [hn] at hp
        have hp2 := cond_done hp
        clear hp
        obtain ⟨h1, hp⟩ := hp2
        simp only [Bool.and_eq_true, Bool.not_eq_true'] at h1
        cases hs : setO E (.lst c l) p (frz s.h (s.ev E t y)) with
        | none => simp [hs] at hp
        | some o' =>
          simp only [hs, Plan.done.injEq] at hp
          obtain ⟨-, -, rfl, rfl⟩ := hp
          exact op_store_lst ok R t x y hop hx hn h1.1.1 h1.1.2 h1.2 hs
      | _ => simp [hn] at hp
    | _ => simp [hx] at hp
  | fieldAddr t x k =>
    simp only [plan, hop] at hp
    cases hx : s.ev E 0 x with
    | ptr n p =>
      cases ht : E.ty t with
      | st fs =>
        simp only [hx, ht] at hp
        cases hf : fieldAt fs k with
        | none => simp [hf] at hp
        | some f =>
          simp only [hf] at hp
          have hp2 := cond_done' hp
          clear hp
          obtain ⟨h1, hp⟩ := hp2
          simp only [Plan.done.injEq] at hp
          obtain ⟨-, -, rfl, rfl⟩ := hp
          exact op_fieldAddr ok R t x k hop hx ht hf h1
      | _ => simp [hx, ht] at hp
    | rp g c l i p =>
      cases ht : E.ty t with
      | st fs =>
        simp only [hx, ht] at hp
        cases hf : fieldAt fs k with
        | none => simp [hf] at hp
        | some f =>
          simp only [hf] at hp
          have hp2 := cond_done' hp
          clear hp
          obtain ⟨h1, hp⟩ := hp2
          simp only [Plan.done.injEq] at hp
          obtain ⟨-, -, rfl, rfl⟩ := hp
          exact op_fieldAddr_rp ok R t x k hop hx ht hf h1
      | _ => simp [hx, ht] at hp
    | tr c z p =>
      cases ht : E.ty t with
      | st fs =>
        simp only [hx, ht] at hp
        cases hf : fieldAt fs k with
        | none => simp [hf] at hp
        | some f =>
          simp only [hf] at hp
          have hp2 := cond_done' hp
          clear hp
          obtain ⟨h1, hp⟩ := hp2
          simp only [Plan.done.injEq] at hp
          obtain ⟨rfl, -, rfl, rfl⟩ := hp
          exact op_fieldAddr_tr ok R t x k hop hx ht hf h1 (hq _ rfl)
      | _ => simp [hx, ht] at hp
    | _ => simp [hx] at hp
  | field t x k =>
    simp only [plan, hop] at hp
    cases hx : s.ev E 0 x with
    | agg l =>
      cases ht : E.ty t with
      | st fs =>
        simp only [hx, ht] at hp
        cases hf : fieldAt fs k with
        | none => simp [hf] at hp
        | some f =>
          simp only [hf] at hp
          have hp2 := cond_done hp
          clear hp
          obtain ⟨h1, hp⟩ := hp2
          simp only [Plan.done.injEq] at hp
          obtain ⟨-, -, rfl, rfl⟩ := hp
          exact op_field ok R t x k hop hx ht hf h1
      | _ => simp [hx, ht] at hp
    | _ => simp [hx] at hp
  | indexAddr t x i =>
    simp only [plan, hop] at hp
    cases hi : s.ev E 0 i with
    | int k n =>
      simp only [hi] at hp
      cases hx : s.ev E t x with
      | own m =>
        simp only [hx] at hp
        cases hm : s.h m with
        | lst c l =>
          simp only [hm] at hp
          have hp2 := cond_done hp
          clear hp
          obtain ⟨h1, hp⟩ := hp2
          simp only [Plan.done.injEq] at hp
          obtain ⟨rfl, -, rfl, rfl⟩ := hp
          exact op_index_own ok R t x i hop hi hx (.inl hm) h1 (hq _ rfl).1 (hq _ rfl).2
        | fz c l =>
          simp only [hm] at hp
          have hp2 := cond_done hp
          clear hp
          obtain ⟨h1, hp⟩ := hp2
          simp only [Plan.done.injEq] at hp
          obtain ⟨rfl, -, rfl, rfl⟩ := hp
          exact op_index_own ok R t x i hop hi hx (.inr hm) h1 (hq _ rfl).1 (hq _ rfl).2
        | _ => simp [hm] at hp
      | ro g c l =>
        simp only [hx] at hp
        have hp2 := cond_done hp
        clear hp
        obtain ⟨h1, hp⟩ := hp2
        simp only [Plan.done.injEq] at hp
        obtain ⟨rfl, -, rfl, rfl⟩ := hp
        exact op_index_ro ok R t x i hop hi (.inl hx) h1 (hq _ rfl).1 (hq _ rfl).2
      | clip g c l =>
        simp only [hx] at hp
        have hp2 := cond_done hp
        clear hp
        obtain ⟨h1, hp⟩ := hp2
        simp only [Plan.done.injEq] at hp
        obtain ⟨rfl, -, rfl, rfl⟩ := hp
        exact op_index_ro ok R t x i hop hi (.inr hx) h1 (hq _ rfl).1 (hq _ rfl).2
      | sub m c j len =>
        simp only [hx] at hp
        cases hm : s.h m with
        | lst c' l =>
          simp only [hm] at hp
          have hp2 := cond_done hp
          clear hp
          obtain ⟨h1, hp⟩ := hp2
          simp only [Bool.and_eq_true] at h1
          have := Nat.eq_of_beq_eq_true h1.2
          subst this
          simp only [Plan.done.injEq] at hp
          obtain ⟨rfl, -, rfl, rfl⟩ := hp
          exact op_index_sub ok R t x i hop hi hx (.inl hm) h1.1 (hq _ rfl).1 (hq _ rfl).2
        | fz c' l =>
          simp only [hm] at hp
          have hp2 := cond_done hp
          clear hp
          obtain ⟨h1, hp⟩ := hp2
          simp only [Bool.and_eq_true] at h1
          have := Nat.eq_of_beq_eq_true h1.2
          subst this
          simp only [Plan.done.injEq] at hp
          obtain ⟨rfl, -, rfl, rfl⟩ := hp
          exact op_index_sub ok R t x i hop hi hx (.inr hm) h1.1 (hq _ rfl).1 (hq _ rfl).2
        | _ => simp [hm] at hp
      | bsl m p c M j len =>
        simp only [hx] at hp
        have hp2 := cond_done hp
        clear hp
        obtain ⟨h1, hp⟩ := hp2
        simp only [Plan.done.injEq] at hp
        obtain ⟨rfl, -, rfl, rfl⟩ := hp
        exact op_index_bsl ok R t x i hop hi hx h1 (hq _ rfl).1 (hq _ rfl).2
      | ptr m p =>
        simp only [hx] at hp
        cases ht : E.ty t with
        | arr L e =>
          (try simp only [ht] at hp)
          have hp2 := cond_done' hp
          clear hp
          obtain ⟨h1, hp⟩ := hp2
          simp only [Plan.done.injEq] at hp
          obtain ⟨rfl, -, rfl, rfl⟩ := hp
          exact op_index_arr ok R t x i hop hi hx ht h1 (hq _ rfl).1 (hq _ rfl).2
        | _ => simp [ht] at hp
      | rp g c l j p =>
        simp only [hx] at hp
        cases ht : E.ty t with
        | arr L e =>
          (try simp only [ht] at hp)
          have hp2 := cond_done' hp
          clear hp
          obtain ⟨h1, hp⟩ := hp2
          simp only [Plan.done.injEq] at hp
          obtain ⟨rfl, -, rfl, rfl⟩ := hp
          exact op_index_rparr ok R t x i hop hi hx ht h1 (hq _ rfl).1 (hq _ rfl).2
        | _ => simp [ht] at hp
      | _ => simp [hx] at hp
    | _ => simp [hi] at hp
  | index t x i =>
    simp only [plan, hop] at hp
    cases hi : s.ev E 0 i with
    | int k n =>
      cases hx : s.ev E t x with
      | arr c M l =>
        simp only [hi, hx] at hp
        cases ht : E.ty t with
        | arr M' c' =>
          (try simp only [ht] at hp)
          have hp2 := cond_done hp
          clear hp
          obtain ⟨h1, hp⟩ := hp2
          simp only [Bool.and_eq_true] at h1
          have e1 := Nat.eq_of_beq_eq_true h1.1
          have e2 := Nat.eq_of_beq_eq_true h1.2.1
          subst e1; subst e2
          simp only [Plan.done.injEq] at hp
          obtain ⟨rfl, -, rfl, rfl⟩ := hp
          exact op_index_val ok R t x i hop hi hx ht h1.2.2 (hq _ rfl).1 (hq _ rfl).2
        | _ => simp [ht] at hp
      | str g =>
        simp only [hi, hx] at hp
        cases ht : E.ty t with
        | str =>
          simp only [ht, Plan.done.injEq] at hp
          obtain ⟨rfl, -, rfl, rfl⟩ := hp
          exact op_index_str ok R t x i hop hi hx ht (hq _ rfl).1 (hq _ rfl).2
        | _ => simp [ht] at hp
      | _ => simp [hi, hx] at hp
    | _ => simp [hi] at hp
  | binOp op t x y ty =>
    simp only [plan, hop] at hp
    have eqd : cond (plainTy (E.ty t)) .bad (eqP op (eqV E 20 t (s.ev E t x) (s.ev E ty y))) = .done pre rd wr v → Ops E s N a w ι St b o wr v := by
      intro hp
      obtain ⟨h1, hp⟩ := cond_done' hp
      cases he : eqV E 20 t (s.ev E t x) (s.ev E ty y) with
      | none => rw [he] at hp; simp [eqP] at hp
      | some r =>
        rw [he] at hp
        cases op <;> first | (simp [eqP] at hp; done) | skip
        · simp only [eqP, Plan.done.injEq] at hp
          obtain ⟨rfl, -, rfl, rfl⟩ := hp
          exact op_eq ok R _ t ty x y hop h1 he (.inl ⟨rfl, rfl⟩)
        · simp only [eqP, Plan.done.injEq] at hp
          obtain ⟨rfl, -, rfl, rfl⟩ := hp
          exact op_eq ok R _ t ty x y hop h1 he (.inr ⟨rfl, rfl⟩)
    cases hx : s.ev E t x with
    | int k n =>
      cases hy : s.ev E ty y with
      | int k' m =>
        simp only [hx, hy] at hp
        cases op with
        | shl =>
          simp only [Plan.done.injEq] at hp
          obtain ⟨rfl, -, rfl, rfl⟩ := hp
          exact op_shift ok R _ t ty x y hop hx hy (hq _ rfl) (.inl ⟨rfl, rfl⟩)
        | shr =>
          simp only [Plan.done.injEq] at hp
          obtain ⟨rfl, -, rfl, rfl⟩ := hp
          exact op_shift ok R _ t ty x y hop hx hy (hq _ rfl) (.inr ⟨rfl, rfl⟩)
        | _ =>
          dsimp only at hp
          have hp2 := cond_done hp
          clear hp
          obtain ⟨h1, hp⟩ := hp2
          have h1 := of_decide_eq_true h1
          subst h1
          split at hp
          · rename_i q u hio
            simp only [Plan.done.injEq] at hp
            obtain ⟨rfl, -, rfl, rfl⟩ := hp
            exact op_int ok R _ t ty x y hop hx hy hio hq
          · simp at hp
      | nils c => simp only [hx, hy] at hp; exact absurd hp nilV_done
      | _ => simp only [hx, hy] at hp; exact eqd (by rw [hx, hy]; exact hp)
    | str g =>
      cases hy : s.ev E ty y with
      | str g' =>
        simp only [hx, hy] at hp
        split at hp
        · rename_i q u hio
          simp only [Plan.done.injEq] at hp
          obtain ⟨rfl, -, rfl, rfl⟩ := hp
          exact op_str ok R _ t ty x y hop hx hy hio hq
        · simp at hp
      | nils c => simp only [hx, hy] at hp; exact absurd hp nilV_done
      | _ => simp only [hx, hy] at hp; exact eqd (by rw [hx, hy]; exact hp)
    | bool p =>
      cases hy : s.ev E ty y with
      | bool q =>
        simp only [hx, hy] at hp
        split at hp
        · rename_i ht
          simp only [Plan.done.injEq] at hp
          obtain ⟨rfl, -, rfl, rfl⟩ := hp
          exact op_eq_bool ok R _ t ty x y hop ht hx hy (.inl ⟨rfl, rfl⟩)
        · rename_i ht
          simp only [Plan.done.injEq] at hp
          obtain ⟨rfl, -, rfl, rfl⟩ := hp
          exact op_eq_bool ok R _ t ty x y hop ht hx hy (.inr ⟨rfl, rfl⟩)
        · simp at hp
      | nils c => simp only [hx, hy] at hp; exact absurd hp nilV_done
      | _ => simp only [hx, hy] at hp; exact eqd (by rw [hx, hy]; exact hp)
    | _ => cases hy : s.ev E ty y <;> first | (simp only [hx, hy] at hp; exact absurd hp nilV_done) | (simp only [hx, hy] at hp; exact eqd (by rw [hx, hy]; exact hp))
  | unOp op t x =>
    simp only [plan, hop] at hp
    cases op with
    | not =>
      cases hx : s.ev E 0 x with
      | bool q =>
        simp only [hx, Plan.done.injEq] at hp
        obtain ⟨-, -, rfl, rfl⟩ := hp
        exact op_not ok R t x hop hx
      | _ => simp [hx] at hp
    | neg =>
      cases hx : s.ev E 0 x with
      | int k n =>
        simp only [hx, Plan.done.injEq] at hp
        obtain ⟨-, -, rfl, rfl⟩ := hp
        exact op_neg ok R t x hop hx
      | _ => simp [hx] at hp
    | xor =>
      cases hx : s.ev E 0 x with
      | int k n =>
        simp only [hx, Plan.done.injEq] at hp
        obtain ⟨-, -, rfl, rfl⟩ := hp
        exact op_xor ok R t x hop hx
      | _ => simp [hx] at hp
    | plus => simp at hp
  | convert t d x =>
    simp only [plan, hop] at hp
    have hp2 := cond_done' hp
    clear hp
    obtain ⟨h1, hp⟩ := hp2
    have hs : E.ty t ≠ .no := fun e => by rw [e] at h1; simp [isNo] at h1
    unfold convV at hp
    split at hp
    · rename_i k k' n h2 h3
      simp only [Plan.done.injEq] at hp
      obtain ⟨-, -, rfl, rfl⟩ := hp
      exact op_conv_int ok R t d x hop h2 hs h3
    · rename_i g h2 h3
      simp only [Plan.done.injEq] at hp
      obtain ⟨-, -, rfl, rfl⟩ := hp
      exact op_conv_str ok R t d x hop h2 hs h3
    · rename_i y h2 h3
      split at hp
      · rename_i q hq
        have hp2 := cond_done hp
        clear hp
        obtain ⟨h4, hp⟩ := hp2
        split at hp
        · rename_i g hg
          simp only [Plan.done.injEq] at hp
          obtain ⟨-, -, rfl, rfl⟩ := hp
          exact op_bytes_str ok R t d x hop h2 hq h4 hg
        · simp at hp
      · simp at hp
    · rename_i e g h2 h3
      split at hp
      · rename_i l ht hl
        simp only [Plan.done.injEq] at hp
        obtain ⟨-, -, rfl, rfl⟩ := hp
        exact op_str_bytes ok R hb hd t d x hop h2 ht h3 hl
      · simp at hp
    · simp at hp
  | makeFunc f first caps =>
    cases f with
    | func f =>
      simp only [plan, hop] at hp
      have hp2 := cond_done hp
      clear hp
      obtain ⟨h1, hp⟩ := hp2
      simp only [Bool.and_eq_true, List.all_eq_true] at h1
      simp only [Plan.done.injEq] at hp
      obtain ⟨-, -, rfl, rfl⟩ := hp
      exact op_makeFunc ok R f first caps hop h1.1 (fun x hx => h1.2 _ (List.mem_map.2 ⟨x, hx, rfl⟩))
    | _ => simp [plan, hop] at hp
  | nilCheck x =>
    simp only [plan, hop] at hp
    split at hp
    · rename_i n p hx
      simp only [Plan.done.injEq] at hp
      obtain ⟨-, -, rfl, rfl⟩ := hp
      rw [← hx]
      exact op_nilCheck ok R x hop (.inl ⟨n, p, hx⟩)
    · rename_i g c l i p hx
      simp only [Plan.done.injEq] at hp
      obtain ⟨-, -, rfl, rfl⟩ := hp
      rw [← hx]
      exact op_nilCheck ok R x hop (.inr (.inl ⟨g, c, l, i, p, hx⟩))
    · rename_i c z p hx
      simp only [Plan.done.injEq] at hp
      obtain ⟨rfl, -, rfl, rfl⟩ := hp
      exact op_nilCheck_tr ok R x hop hx (hq _ rfl)
    · rename_i f l hx
      simp only [Plan.done.injEq] at hp
      obtain ⟨-, -, rfl, rfl⟩ := hp
      rw [← hx]
      exact op_nilCheck ok R x hop (.inr (.inr ⟨f, l, hx⟩))
    · simp at hp
  | extract x i =>
    simp only [plan, hop] at hp
    cases hx : s.ev E 0 x with
    | tup l =>
      simp only [hx] at hp
      have hp2 := cond_done hp
      clear hp
      obtain ⟨h1, hp⟩ := hp2
      simp only [Plan.done.injEq] at hp
      obtain ⟨-, -, rfl, rfl⟩ := hp
      exact op_extract ok R x i hop hx (Nat.le_of_ble_eq_true h1)
    | _ => simp [hx] at hp
  | build t ps =>
    simp only [plan, hop] at hp
    cases hz : zero E t with
    | agg z =>
      cases ht : E.ty t with
      | st fs =>
        simp only [hz, ht] at hp
        have hp2 := cond_done hp
        clear hp
        obtain ⟨h1, hp⟩ := hp2
        split at hp
        · rename_i l hs
          simp only [Plan.done.injEq] at hp
          obtain ⟨-, -, rfl, rfl⟩ := hp
          obtain ⟨g1, g2⟩ := fieldsFit_iff fs z 0 h1
          exact op_build_st ok R t ps hop hz ht (fun k hk => by obtain ⟨f, f1, f2, f3, f4⟩ := g2 k hk; exact ⟨f, f1, by omega, f3, f4⟩) g1 (fieldTy fs) hs
        · simp at hp
      | _ => simp [hz, ht] at hp
    | arr c n z =>
      cases ht : E.ty t with
      | arr n' c' =>
        simp only [hz, ht] at hp
        have hp2 := cond_done hp
        clear hp
        obtain ⟨h1, hp⟩ := hp2
        simp only [Bool.and_eq_true] at h1
        have e1 := Nat.eq_of_beq_eq_true h1.1
        have e2 := Nat.eq_of_beq_eq_true h1.2
        subst e1; subst e2
        split at hp
        · rename_i l hs
          split at hp
          · rename_i xs hx
            have hp2 := cond_done' hp
            clear hp
            obtain ⟨h2, hp⟩ := hp2
            simp only [Bool.or_eq_false_iff] at h2
            simp only [Plan.done.injEq] at hp
            obtain ⟨-, -, rfl, rfl⟩ := hp
            exact op_build_arr ok R t ps hop hz ht hs hx h2.1 (by simp [h2.2.1, h2.2.2])
          · simp at hp
        · simp at hp
      | _ => simp [hz, ht] at hp
    | _ => simp [hz] at hp
  | buildSlice t n ps =>
    simp only [plan, hop] at hp
    cases ht : E.ty t with
    | sl e =>
      simp only [ht] at hp
      cases hz : (Nat.beq n 0 && ps.toList.isEmpty) with
      | true =>
        rw [hz] at hp
        simp only [cond_true] at hp
        have hp2 := cond_done' hp
        clear hp
        obtain ⟨h2, hp⟩ := hp2
        simp only [Plan.done.injEq] at hp
        obtain ⟨-, -, rfl, rfl⟩ := hp
        simp only [Bool.and_eq_true, List.isEmpty_iff] at hz
        exact op_buildSlice0 ok R hb hd t e n ps hop ht h2 (Nat.eq_of_beq_eq_true hz.1) hz.2
      | false =>
      rw [hz] at hp
      simp only [cond_false] at hp
      split at hp
      · rename_i l hs
        split at hp
        · rename_i xs hx
          have hp2 := cond_done' hp
          clear hp
          obtain ⟨h2, hp⟩ := hp2
          simp only [Bool.or_eq_false_iff] at h2
          simp only [Plan.done.injEq] at hp
          obtain ⟨-, -, rfl, rfl⟩ := hp
          exact op_buildSlice ok R hb hd t e n ps hop ht hs hx h2.1 (by simp [h2.2.1, h2.2.2.1, h2.2.2.2])
        · simp at hp
      · simp at hp
    | _ => simp [ht] at hp
  | slice t x lo hi mx =>
    simp only [plan, hop] at hp
    exact plan_slice ok R hop hp hq
  | call c =>
    simp only [plan, hop] at hp
    exact plan_call ok R hb hd hop hp hq
  | _ => simp [plan, hop] at hp
/-- what is done: a knot's box, too, once its width is known -/
def PDone (p : Plan U) (pre : Option Prop) (rd : List Nat) (wr : List (Nat × AObj U)) (v : A U) : Prop :=
  p = .done pre rd wr v ∨ (pre = none ∧ rd = [] ∧ ∃ b v0 g x, p = .knot b v0 ∧ knotBox g v0 = some x ∧ wr = [(b, .box x)] ∧ v = .ptr b [])
theorem PDone.look {p : Plan U} {pre rd wr v} (hp : PDone p pre rd wr v) : lookOf p = rd ++ wr.map (·.1) := by
  rcases hp with hp | ⟨-, h1, _, _, _, _, hp, -, h2, -⟩
  · rw [hp]; rfl
  · rw [hp, h1, h2]; rfl
theorem knot_plan {v : A U} {b' : Nat} (hp : plan E b o s = .knot b' v) : b' = b ∧ ∃ t x, o.op = .box t x ∧ s.ev E t x = v ∧ fits E t v = true := by
  cases hop : o.op with
  | box t x =>
    simp only [plan, hop] at hp
    cases h1 : fits E t (s.ev E t x) with
    | false => rw [h1] at hp; cases hp
    | true =>
      rw [h1] at hp
      simp only [cond_true] at hp
      cases h2 : Nat.beq t E.kn.ks with
      | false => rw [h2] at hp; cases hp
      | true =>
        rw [h2] at hp
        cases hp
        exact ⟨rfl, t, x, rfl, rfl, h1⟩
  | call c => exfalso; revert hp; simp only [plan, hop]; unfold callV lenV appendV copyV; simp only [Bool.cond_eq_ite]; intro hp; (repeat' split at hp) <;> cases hp
  | unOp op t x => exfalso; revert hp; cases op <;> (simp only [plan, hop]; intro hp; (repeat' split at hp) <;> cases hp)
  | makeFunc fn first caps => exfalso; revert hp; cases fn <;> (simp only [plan, hop]; (try simp only [Bool.cond_eq_ite]); intro hp; (repeat' split at hp) <;> cases hp)
  | slice t x lo hi mx => exfalso; revert hp; simp only [plan, hop, sliceV, Bool.cond_eq_ite]; intro hp; (repeat' split at hp) <;> cases hp
  | convert t d x => exfalso; revert hp; simp only [plan, hop]; unfold convV; simp only [Bool.cond_eq_ite]; intro hp; (repeat' split at hp) <;> cases hp
  | binOp op t x y ty =>
    exfalso
    have hE : ∀ r, eqP (U := U) op r ≠ .knot b' v := fun r h => by rcases eqP_form (U := U) op r with e | ⟨c, e⟩ <;> rw [e] at h <;> cases h
    have hN : ∀ u c, nilV E s op t u c y ≠ .knot b' v := fun u c h => by
      unfold nilV at h
      simp only [Bool.cond_eq_ite] at h
      (repeat' split at h) <;> cases h
    simp only [plan, hop] at hp
    cases hy : s.ev E ty y with
    | nils c => rw [hy] at hp; revert hp; cases s.ev E t x <;> exact hN _ _
    | _ => rw [hy] at hp; revert hp; cases s.ev E t x <;> (simp only [Bool.cond_eq_ite]; intro hp; (repeat' split at hp) <;> first | exact hE _ hp | cases hp)
  | _ => exfalso; revert hp; simp only [plan, hop]; (try simp only [Bool.cond_eq_ite]); intro hp; (repeat' split at hp) <;> cases hp
theorem pdone_sound (ok : EnvOk2 E) (R : Rel E s N a.tmps w ι St) (hb : ι b = none) (hd : isLive (s.h b) = false) {pre rd wr v} (hp : PDone (plan E b o s) pre rd wr v) (hq : ∀ p, pre = some p → p) : Ops E s N a w ι St b o wr v := by
  rcases hp with hp | ⟨-, -, b', v0, g, x, h1, h2, rfl, rfl⟩
  · exact plan_sound ok R hb hd hp hq
  · obtain ⟨rfl, t, y, h3, h4, h5⟩ := knot_plan h1
    subst h4
    exact op_knot ok R hb hd t y h3 (fits_iff h5).1 h2

end
end Go.V

/- V: calls. -/
set_option linter.unusedVariables false
set_option linter.unusedSimpArgs false
namespace Go.V
variable {U : Nat → Type}


/-- values that a call gives, with what they have for themselves -/
def RVb (E : Env U) (w : World) (St : Ck U → Nat → Prop) : List (A U) → List Value → List Nat → Prop
  | [], [], bs => bs = []
  | a :: l, v :: vs, bs => ∃ b1 b2, bs = b1 ++ b2 ∧ RC E w St noNm [a] v.cells.toList b1 ∧ isAggV v = isAgg a ∧ RVb E w St l vs b2
  | _, _, _ => False
def RTb (E : Env U) (w : World) (St : Ck U → Nat → Prop) (a : A U) (v : Value) (bs : List Nat) : Prop :=
  match a with
  | .tup l => ∃ vs, v = .tuple vs ∧ RVb E w St l vs.toList bs
  | a => RC E w St noNm [a] v.cells.toList bs ∧ isAggV v = isAgg a

structure Result' (E : Env U) (w : World) (St : Ck U → Nat → Prop) (K : A U → List (AObj U) → Prop) (v : Value) (w' : World) (r : A U) (bs : List Nat) (St' : Ck U → Nat → Prop) : Prop where
  k : K r []
  val : RTb E w' St' r v bs
  fr : Fr (KnB St) w w'
  sup : Sup E w' St'
  kn : ∀ c x B, St (.kn c x) B → St' (.kn c x) B
  new : ∀ B ∈ bs, w.heap.size ≤ B ∧ B < w'.heap.size ∧ ¬ An St' B
  dis : bs.Nodup
  gr : ∀ g B, St' g B → St g B ∨ w.heap.size ≤ B
  lt : ∀ B, An St' B → B < w'.heap.size

/-- what a function's row of the table promises -/
def FnSound (E : Env U) (f : FuncId) (args : List (A U)) (K : A U → List (AObj U) → Prop) : Prop :=
  (∃ fn, E.P.funcs[f]? = some fn ∧ fn.body.isSome = true ∧ (fn.name == "runtime.NumGoroutine") = false) ∧
  ∀ (w : World) (St : Ck U → Nat → Prop) (vs : Array Value), RVs E w St noNm args vs.toList → (∀ B, An St B → B < w.heap.size) → Sup E w St →
    Calls E.P f vs w fun e w' => ∃ r v bs St', e = .returned v ∧ Result' E w St K v w' r bs St'

section
variable {E : Env U} {w : World} {St : Ck U → Nat → Prop} {ι : Nat → Option Value} {s : S U} {N : Nat} {a : Act} {b : Nat} {o : Oper}

/-- the blocks of lists that are lent -/
def isMem (o : AObj U) : Bool := isLst o || isBox o
def Lent (s : S U) (ι : Nat → Option Value) (l : List Nat) (B : Nat) : Prop := ∃ m ∈ l, isMem (s.h m) = true ∧ blkO (ι m) = some B
def StC (s : S U) (St : Ck U → Nat → Prop) (ι : Nat → Option Value) (l : List Nat) (g : Ck U) (B : Nat) : Prop := match g with
  | .on true => AnR St B ∨ Lent s ι l B
  | .on false => St (.on false) B
  | .kn c x => St (.kn c x) B

theorem StC.stay {l : List Nat} (B : Nat) (h : St (.on false) B) : StC s St ι l (.on false) B := h
theorem StC.any {l : List Nat} (g : Ck U) (B : Nat) (h : St g B) : StC s St ι l g B := by
  cases g with
  | kn c x => exact h
  | on b =>
    cases b
    · exact h
    · exact .inl ⟨_, h⟩
theorem StC.lent {l : List Nat} (m B : Nat) (hm : m ∈ l) (hl : isLst (s.h m) = true) (h : blkO (ι m) = some B) : StC s St ι l (.on true) B := .inr ⟨m, hm, by unfold isMem; rw [hl]; rfl, h⟩

theorem app_nil {α : Type} {l m : List α} (h : l ++ m = []) : l = [] ∧ m = [] := by simpa using h

theorem sizes_of {sz : Nat → Nat} {l m : List (A U)} (h : l.map (fun a => (size sz a, isAgg a)) = m.map (fun a => (size sz a, isAgg a))) : sizes sz l = sizes sz m := by
  induction l generalizing m with
  | nil => cases m with | nil => rfl | cons _ _ => simp at h
  | cons a l ih =>
    cases m with
    | nil => simp at h
    | cons b m =>
      simp only [List.map_cons, List.cons.injEq, Prod.mk.injEq] at h
      simp [sizes, h.1.1, ih h.2]

mutual
theorem inA_ok (ok : EnvOk2 E) {tm : Array Value} (R : Rel E s N tm w ι St) (L : List Nat) : ∀ (q : A U) {cs : List Value}, RC E w St ι [q] cs [] → hole (inA E s.h [] q) = false → ptrs q = [] → (∀ m ∈ owns q, m ∈ L) →
    RC E w (StC s St ι L) noNm [inA E s.h [] q] cs [] ∧ isAgg (inA E s.h [] q) = isAgg q ∧ size E.sz (inA E s.h [] q) = size E.sz q
  | .own m, cs, hc, hh, hp, hL => by
    obtain ⟨v, rfl, hv⟩ := hc.own_inv
    have h0 := R.obj m
    cases hm : s.h m with
    | lst c l =>
      rw [hm] at h0
      simp only [inA, hm]
      refine ⟨?_, rfl, rfl⟩
      rcases h0 with ⟨⟨a0, h1⟩, h2⟩ | ⟨B, off, cap, ds, h1, h2, h3, h4, h5, h6⟩
      · rw [hv] at h1
        obtain rfl := Option.some.inj h1
        subst h2
        exact .roE .nil
      · rw [hv] at h1
        obtain rfl := Option.some.inj h1
        exact .ro (h2.encs ok.toEnvOk StC.stay) h3 (StC.lent m B (hL m (by simp [owns])) (by rw [hm]; rfl) (by rw [hv]; rfl)) h5 .nil
    | fz c l =>
      rw [hm] at h0
      simp only [inA, hm]
      refine ⟨?_, rfl, rfl⟩
      obtain ⟨v', h1, h2⟩ := h0
      rw [hv] at h1
      obtain rfl := Option.some.inj h1
      cases h2 with
      | roE _ => exact .roE .nil
      | ro q1 q2 q3 q4 _ => exact .ro (q1.encs ok.toEnvOk StC.stay) q2 (.inl ⟨_, q3⟩) q4 .nil
    | dead => simp [inA, hm, hole] at hh
    | lp lf lid live vals j => simp [inA, hm, hole] at hh
    | box q => simp [inA, hm, hole] at hh
  | .sub m c i len, cs, hc, hh, hp, hL => by
    have hc' : ∃ a a' L C cap, ι m = some (.slice a L C) ∧ i + len ≤ L ∧ len ≤ cap ∧ i + cap ≤ C ∧ (cap = 0 ∨ a' = a.map (·.add (i * E.sz c))) ∧ cs = [.slice a' len cap] := by
      cases hc with
      | sub h1 h2 h3 h4 h5 h6 => cases h6; exact ⟨_, _, _, _, _, h1, h2, h3, h4, h5, rfl⟩
    obtain ⟨a0, a1, L0, C, cap, r1, r2, r3, r4, r5, rfl⟩ := hc'
    have key : ∃ l', (s.h m = .lst c l' ∨ s.h m = .fz c l') ∧ content E s.h (.sub m c i len) = some ⟨[m], c, cut l' i len⟩ := by
      simp only [inA] at hh
      cases hm : s.h m with
      | lst c' l' =>
        cases hb : Nat.beq c' c with
        | false => simp [content, hm, hb, hole] at hh
        | true =>
          have := Nat.eq_of_beq_eq_true hb
          subst this
          exact ⟨l', .inl rfl, by simp [content, hm]⟩
      | fz c' l' =>
        cases hb : Nat.beq c' c with
        | false => simp [content, hm, hb, hole] at hh
        | true =>
          have := Nat.eq_of_beq_eq_true hb
          subst this
          exact ⟨l', .inr rfl, by simp [content, hm]⟩
      | dead => simp [content, hm, hole] at hh
      | lp lf lid live vals j => simp [content, hm, hole] at hh
      | box q => simp [content, hm, hole] at hh
    obtain ⟨l', h1, h2⟩ := key
    simp only [inA, h2]
    refine ⟨?_, rfl, rfl⟩
    obtain ⟨rfl, q⟩ := R.own_at h1 r1
    have hlen : (cut l' i len).length = len := by simp only [cut, List.length_take, List.length_drop]; omega
    by_cases hz : len = 0
    · have : cut l' i len = [] := List.eq_nil_of_length_eq_zero (by omega)
      rw [this, hz]
      exact .roE .nil
    · rcases q with rfl | ⟨B, off, ds, rfl, q1, q2, q3⟩
      · simp at r2; omega
      · have ha := r5.resolve_left (by omega)
        simp only [Option.map_some, Addr.add_eq] at ha
        subst ha
        obtain ⟨es, p1, p2⟩ := cut_cells ok.toEnvOk q1 q2 r2
        have h3 : RC E w (StC s St ι L) noNm [.ro true c (cut l' i len)] [.slice (some ⟨B, off + i * E.sz c, .none⟩) (cut l' i len).length cap] [] := by
          refine .ro (p1.encs ok.toEnvOk StC.stay) p2 ?_ (by omega) .nil
          rcases h1 with h1 | h1
          · exact StC.lent m B (hL m (by simp [owns])) (by rw [h1]; rfl) (by rw [r1]; exact blk_pos (by omega))
          · have h0 := R.obj m
            rw [h1] at h0
            obtain ⟨v', e1, e2⟩ := h0
            rw [r1] at e1
            obtain rfl := Option.some.inj e1
            have hne : l' ≠ [] := by intro e; subst e; simp at r2; omega
            obtain ⟨a2, cap2, k1, k2⟩ := RV.ro_inv (RV.mk1 e2 rfl rfl)
            simp only [Value.slice.injEq] at k1
            obtain ⟨rfl, -, -⟩ := k1
            obtain ⟨ds2, B2, off2, k3, -, -, k4, -⟩ := k2.resolve_left hne
            simp only [Option.some.injEq, Addr.mk.injEq, and_true] at k3
            obtain ⟨rfl, -⟩ := k3
            simp only [StC, if_true]
            exact .inl ⟨_, k4⟩
        rw [hlen] at h3
        exact h3
  | .agg l, cs, hc, hh, hp, hL => by
    simp only [inA]
    obtain ⟨h1, h2⟩ := inAs_ok ok R L l hc.agg_inv (by simpa [inA, hole] using hh) (by simpa [ptrs] using hp) (by simpa [owns] using hL)
    refine ⟨by simpa using RC.agg h1 .nil, rfl, ?_⟩
    simp only [size]
    exact sizes_of h2
  | .clo f l, cs, hc, hh, hp, hL => by
    simp only [inA]
    have hc' : ∃ vs : Array Value, cs = [.func (.func f) #[] vs] ∧ RC E w St ι l ((vs.toList.map (·.cells.toList)).flatten) [] ∧ vs.toList.map (fun v => (v.cells.size, isAggV v)) = l.map (fun a => (size E.sz a, isAgg a)) := by
      cases hc with
      | clo h1 h2 h3 => cases h3; exact ⟨_, rfl, h1, h2⟩
    obtain ⟨vs, rfl, h3, h4⟩ := hc'
    obtain ⟨h1, h2⟩ := inAs_ok ok R L l h3 (by simpa [inA, hole] using hh) (by simpa [ptrs] using hp) (by simpa [owns] using hL)
    exact ⟨.clo h1 (h4.trans h2.symm) .nil, rfl, rfl⟩
  | .nils c, cs, hc, hh, hp, hL => by
    cases hc; rename_i hn; cases hn
    exact ⟨.roE .nil, rfl, rfl⟩
  | .none, cs, hc, hh, hp, hL => by cases hc
  | .tup l, cs, hc, hh, hp, hL => by cases hc
  | .usl c l, cs, hc, hh, hp, hL => by simp [inA, hole] at hh
  | .bsl m p c M i len, cs, hc, hh, hp, hL => by
    obtain ⟨B, a1, cap, r1, r2, r3, r4, r5, r6, rfl⟩ : ∃ B a1 cap, ι m = some (.pointer (some ⟨B, 0, .none⟩)) ∧ i + len ≤ M ∧ len ≤ cap ∧ i + cap ≤ M ∧ (cap = 0 ∨ a1 = some ⟨B, po p + i * E.sz c, .none⟩) ∧ vp 0 p ∧ cs = [.slice a1 len cap] := by
      cases hc with
      | bsl h1 h2 h3 h4 h5 h6 h7 => cases h7; exact ⟨_, _, _, h1, h2, h3, h4, h5, h6, rfl⟩
    simp only [inA] at hh ⊢
    cases hm : s.h m with
    | box q0 =>
      simp only [content, hm] at hh ⊢
      cases hg : getP E q0 p with
      | arr c' M' l' =>
        simp only [hg] at hh ⊢
        cases hb : (Nat.beq c c' && Nat.beq M M') with
        | false => rw [hb] at hh; simp [hole] at hh
        | true =>
          simp only [cond_true]
          simp only [Bool.and_eq_true] at hb
          have e1 := Nat.eq_of_beq_eq_true hb.1
          have e2 := Nat.eq_of_beq_eq_true hb.2
          subst e1; subst e2
          refine ⟨?_, rfl, rfl⟩
          have h0 := R.obj m
          rw [hm] at h0
          obtain ⟨B', cs', h1, h2, h3, h4, h5⟩ := h0
          rw [r1] at h1
          simp only [Option.some.injEq, Value.pointer.injEq, Addr.mk.injEq, and_true] at h1
          subst h1
          obtain ⟨g1, g2⟩ := h2.getP ok.toEnvOk p r6 (by rw [hg]; rfl)
          rw [hg] at g1 g2
          obtain ⟨g3, g4, -⟩ := g1.arr_inv
          have hlen : (cut l' i len).length = len := by simp only [cut, List.length_take, List.length_drop]; omega
          by_cases hz : len = 0
          · have : cut l' i len = [] := List.eq_nil_of_length_eq_zero (by omega)
            simp only [this]
            rw [hz]
            exact .roE .nil
          · have ha := r5.resolve_left (by omega)
            subst ha
            have hr := rangeAt_sub h3 (po p) (size E.sz (.arr c M l' : A U))
            rw [Nat.zero_add] at hr
            obtain ⟨es, p1, p2⟩ := cut_cells ok.toEnvOk g4 hr (by omega : i + len ≤ l'.length)
            have h9 : RC E w (StC s St ι L) noNm [.ro true c (cut l' i len)] [.slice (some ⟨B, po p + i * E.sz c, .none⟩) (cut l' i len).length cap] [] :=
              .ro (p1.encs ok.toEnvOk StC.stay) p2 (.inr ⟨m, hL m (by simp [owns]), by rw [hm]; rfl, by rw [r1]; rfl⟩) (by omega) .nil
            rwa [hlen] at h9
      | _ => simp [hg, hole] at hh
    | dead => simp [content, hm, hole] at hh
    | lst _ _ => simp [content, hm, hole] at hh
    | fz _ _ => simp [content, hm, hole] at hh
    | lp lf lid live vals j => simp [content, hm, hole] at hh
  | .ptr .., cs, hc, hh, hp, hL => by simp [ptrs] at hp
  | .yld .., cs, hc, hh, hp, hL => by simp [ptrs] at hp
  | .tr c9 x9 p9, cs, hc, hh, hp, hL => ⟨by cases hc with | tr h1 hn => cases hn; exact .tr (h1.mono StC.any) .nil, rfl, rfl⟩
  | .gh g9, cs, hc, hh, hp, hL => ⟨by cases hc; rename_i hn; cases hn; exact .gh .nil, rfl, rfl⟩
  | .int k n, cs, hc, hh, hp, hL => ⟨by cases hc; rename_i hn; cases hn; exact .int .nil, rfl, rfl⟩
  | .bool k, cs, hc, hh, hp, hL => ⟨by cases hc; rename_i hn; cases hn; exact .bool .nil, rfl, rfl⟩
  | .str k, cs, hc, hh, hp, hL => ⟨by cases hc; rename_i hn; cases hn; exact .str .nil, rfl, rfl⟩
  | .nilp, cs, hc, hh, hp, hL => ⟨by cases hc; rename_i hn; cases hn; exact .nilp .nil, rfl, rfl⟩
  | .nilf, cs, hc, hh, hp, hL => ⟨by cases hc; rename_i hn; cases hn; exact .nilf .nil, rfl, rfl⟩
  | .arr c n xs, cs, hc, hh, hp, hL => by
    obtain ⟨h1, h2, -⟩ := hc.arr_inv
    exact ⟨by simpa [inA] using RC.arr h1 (h2.encs ok.toEnvOk StC.stay) .nil, rfl, rfl⟩
  | .ro g c xs, cs, hc, hh, hp, hL => by
    refine ⟨?_, rfl, rfl⟩
    simp only [inA]
    cases hc with
    | roE hn => cases hn; exact .roE .nil
    | ro h1 h2 h3 h4 hn => cases hn; exact .ro (h1.encs ok.toEnvOk StC.stay) h2 (StC.any _ _ h3) h4 .nil
  | .clip g c xs, cs, hc, hh, hp, hL => by
    refine ⟨?_, rfl, rfl⟩
    simp only [inA]
    cases hc with
    | clipE hn => cases hn; exact .clipE .nil
    | clip h1 h2 h3 hn => cases hn; exact .clip (h1.encs ok.toEnvOk StC.stay) h2 (StC.any _ _ h3) .nil
  | .rp g c xs i p, cs, hc, hh, hp, hL => by
    refine ⟨?_, rfl, rfl⟩
    simp only [inA]
    cases hc with
    | rp h1 h2 h3 h4 h5 hn => cases hn; exact .rp (h1.encs ok.toEnvOk StC.stay) h2 (StC.any _ _ h3) h4 h5 .nil
theorem inAs_ok (ok : EnvOk2 E) {tm : Array Value} (R : Rel E s N tm w ι St) (L : List Nat) : ∀ (q : List (A U)) {cs : List Value}, RC E w St ι q cs [] → holes (inAs E s.h [] q) = false → ptrss q = [] → (∀ m ∈ ownss q, m ∈ L) →
    RC E w (StC s St ι L) noNm (inAs E s.h [] q) cs [] ∧ (inAs E s.h [] q).map (fun a => (size E.sz a, isAgg a)) = q.map (fun a => (size E.sz a, isAgg a))
  | [], cs, hc, hh, hp, hL => by cases hc; exact ⟨.nil, rfl⟩
  | q :: l, cs, hc, hh, hp, hL => by
    obtain ⟨c1, c2, b1, b2, rfl, hb, h1, h2⟩ := RC.cons_inv hc
    obtain ⟨rfl, rfl⟩ := nil_or hb
    simp only [inAs, holes, Bool.or_eq_false_iff] at hh
    simp only [ptrss] at hp
    obtain ⟨hp1, hp2⟩ := app_nil hp
    obtain ⟨i1, i2, i3⟩ := inA_ok ok R L q h1 hh.1 hp1 (fun m hm => hL m (by simp [ownss, hm]))
    obtain ⟨j1, j2⟩ := inAs_ok ok R L l h2 hh.2 hp2 (fun m hm => hL m (by simp [ownss, hm]))
    exact ⟨by simp only [inAs]; simpa using RC.cons i1 j1, by simp only [inAs, List.map_cons, i2, i3, j2]⟩
end
end
end Go.V

/- V: what a call gives gets names. -/
set_option linter.unusedVariables false
set_option linter.unusedSimpArgs false
namespace Go.V
variable {U : Nat → Type}
section
variable {E : Env U} {w : World} {St : Ck U → Nat → Prop} {N : Nat} {tm : Array Value}

structure Named (E : Env U) (s : S U) (N : Nat) (tm : Array Value) (w : World) (ι : Nat → Option Value) (St : Ck U → Nat → Prop) (wr : List (Nat × AObj U)) (M n n' : Nat) (bs : List Nat) (ι' : Nat → Option Value) : Prop where
  rel : Rel E { s with h := upds s.h wr } N tm w ι' St
  nm : ∀ m v, ι m = some v → ι' m = some v
  new : ∀ m, ι' m ≠ none → ι m ≠ none ∨ (n ≤ m ∧ m < n')
  le : n ≤ n'
  free : ∀ m, n' ≤ m → m < M → ι' m = none ∧ isLive (upds s.h wr m) = false
  own : ∀ B, Own { s with h := upds s.h wr } ι' B → Own s ι B ∨ B ∈ bs

theorem Named.refl {s : S U} {ι : Nat → Option Value} {M n : Nat} {bs : List Nat} (R : Rel E s N tm w ι St) (hf : ∀ m, n ≤ m → m < M → ι m = none ∧ isLive (s.h m) = false) : Named E s N tm w ι St [] M n n bs ι :=
  ⟨R, fun _ _ h => h, fun _ h => .inl h, Nat.le_refl _, hf, fun _ h => .inl h⟩

theorem ext_names {ι ι' : Nat → Option Value} (h : ∀ m v, ι m = some v → ι' m = some v) : Ext w St ι w St ι' := ⟨fun _ _ h => h, h, fun _ _ => rfl, Nat.le_refl _⟩

theorem usl_inv {c : Nat} {xs : List (U c)} {cs : List Value} {bs : List Nat} {ι : Nat → Option Value} (h : RC E w St ι [.usl c xs] cs bs) :
    (xs = [] ∧ (∃ a, cs = [.slice a 0 0]) ∧ bs = []) ∨ ∃ B off cap ds, cs = [.slice (some ⟨B, off, .none⟩) xs.length cap] ∧ bs = [B] ∧ RC E w St ι (xs.map (E.enc c)) ds [] ∧ w.rangeAt B off ds ∧ w.there B off (cap * E.sz c) ∧ xs.length ≤ cap ∧ B < w.heap.size := by
  cases h with
  | uslE h => cases h; exact .inl ⟨rfl, ⟨_, rfl⟩, rfl⟩
  | usl h1 h2 h3 h4 h5 h6 => cases h6; exact .inr ⟨_, _, _, _, rfl, rfl, h1, h2, h3, h4, h5⟩

mutual
theorem nameA_le (b : Nat) : ∀ (q : A U) (n : Nat), n ≤ (nameA [] b q n).2.2
  | .usl c xs, n => by simp [nameA]
  | .agg l, n => by simpa [nameA] using nameAs_le b l n
  | .tup l, n => by simpa [nameA] using nameAs_le b l n
  | .clo f l, n => by simpa [nameA] using nameAs_le b l n
  | .none, n => Nat.le_refl _
  | .own m, n => Nat.le_refl _
  | .sub m c i len, n => Nat.le_refl _
  | .bsl m p c M i len, n => Nat.le_refl _
  | .ptr m p, n => Nat.le_refl _
  | .yld m, n => Nat.le_refl _
  | .tr c9 x9 p9, n => Nat.le_refl _
  | .gh g9, n => Nat.le_refl _
  | .int k m, n => Nat.le_refl _
  | .bool k, n => Nat.le_refl _
  | .str k, n => Nat.le_refl _
  | .nilp, n => Nat.le_refl _
  | .nilf, n => Nat.le_refl _
  | .nils c, n => Nat.le_refl _
  | .arr c k xs, n => Nat.le_refl _
  | .ro g c xs, n => Nat.le_refl _
  | .clip g c xs, n => Nat.le_refl _
  | .rp g c xs i p, n => Nat.le_refl _
theorem nameAs_le (b : Nat) : ∀ (q : List (A U)) (n : Nat), n ≤ (nameAs [] b q n).2.2
  | [], n => Nat.le_refl _
  | q :: l, n => by simpa [nameAs] using Nat.le_trans (nameA_le b q n) (nameAs_le b l _)
end

mutual
theorem nameA_ok (ok : EnvOk2 E) (b : Nat) : ∀ (q : A U) {s : S U} {ι : Nat → Option Value} {cs : List Value} {bs : List Nat} {M n : Nat}, Rel E s N tm w ι St → RC E w St noNm [q] cs bs → ptrs q = [] →
    (∀ m, n ≤ m → m < M → ι m = none ∧ isLive (s.h m) = false) → (nameA [] b q n).2.2 ≤ M → bs.Nodup → (∀ B ∈ bs, ¬ An St B ∧ ¬ Own s ι B) →
    ∃ ι', Named E s N tm w ι St (nameA [] b q n).2.1 M n (nameA [] b q n).2.2 bs ι' ∧ RC E w St ι' [(nameA [] b q n).1] cs [] ∧ isAgg (nameA [] b q n).1 = isAgg q ∧ size E.sz (nameA [] b q n).1 = size E.sz q
  | .usl c xs, s, ι, cs, bs, M, n, R, hc, hp, hf, hM, hd, hb => by
    simp only [nameA]
    obtain ⟨f1, f2⟩ := hf n (Nat.le_refl _) (by simp only [nameA] at hM; omega)
    have fin : ∀ v, RO E w St (upd ι n (some v)) (.lst c xs) (some v) → (∀ B, blk v = some B → B ∈ bs) → cs = [v] → (∃ a L C, v = .slice a L C) →
        ∃ ι', Named E s N tm w ι St [(n, .lst c xs)] M n (n + 1) bs ι' ∧ RC E w St ι' [(.own n : A U)] cs [] ∧ isAgg (.own n : A U) = isAgg (.usl c xs : A U) ∧ size E.sz (.own n : A U) = size E.sz (.usl c xs : A U) := by
      rintro v ho hB rfl ⟨a, L, C, rfl⟩
      have R1 := R.adopt n (.lst c xs) (.slice a L C) f2 (.inl f1) ho (fun B _ h => ⟨(hb B (hB B h)).1, fun m h1 h2 => (hb B (hB B h)).2 ⟨m, h1, h2⟩⟩)
      have hnm : ∀ m v, ι m = some v → upd ι n (some (.slice a L C)) m = some v := fun m v h => by
        by_cases e : m = n
        · subst e; rw [f1] at h; simp at h
        · rw [upd_ne _ _ e]; exact h
      refine ⟨_, ⟨R1, hnm, fun m h => ?_, by omega, fun m h hm => ?_, fun B hB2 => ?_⟩, .own (upd_same _ _ _) .nil, rfl, rfl⟩
      · by_cases e : m = n
        · exact .inr (by omega)
        · rw [upd_ne _ _ e] at h; exact .inl h
      · have e : m ≠ n := by omega
        simp only [upds, upd_ne _ _ e]
        exact hf m (by omega) hm
      · obtain ⟨m, h1, h2⟩ := hB2
        by_cases e : m = n
        · subst e; rw [upd_same] at h2; exact .inr (hB B h2)
        · rw [upd_ne _ _ e] at h2
          simp only [upds, upd_ne _ _ e] at h1
          exact .inl ⟨m, h1, h2⟩
    rcases usl_inv hc with ⟨rfl, ⟨a0, h2⟩, -⟩ | ⟨B, off, cap, ds, h1, h2, h3, h4, h5, h6, h7⟩
    · exact fin _ (.inl ⟨⟨_, rfl⟩, rfl⟩) (fun B h => by unfold blk at h; rw [base_zero] at h; cases h) h2 ⟨_, _, _, rfl⟩
    · refine fin _ ?_ (fun B' h => ?_) h1 ⟨_, _, _, rfl⟩
      · rcases Nat.eq_zero_or_pos cap with h0 | h0
        · subst h0
          have hx : xs = [] := List.eq_nil_of_length_eq_zero (by omega)
          subst hx
          exact .inl ⟨⟨_, rfl⟩, rfl⟩
        · exact RO.lst_of h0 rfl (h3.encs ok.toEnvOk (fun _ h => h)) h4 h5 h6 h7
      · rw [(blk_inv h).1, h2]; simp
  | .agg l, s, ι, cs, bs, M, n, R, hc, hp, hf, hM, hd, hb => by
    simp only [nameA]
    obtain ⟨ι', h1, h2, h3⟩ := nameAs_ok ok b l R hc.agg_inv (by simpa [ptrs] using hp) hf (by simpa [nameA] using hM) hd hb
    exact ⟨ι', h1, by simpa using RC.agg h2 .nil, rfl, by simp only [size]; exact sizes_of h3⟩
  | .clo f l, s, ι, cs, bs, M, n, R, hc, hp, hf, hM, hd, hb => by
    simp only [nameA]
    have hc' : bs = [] ∧ ∃ vs : Array Value, cs = [.func (.func f) #[] vs] ∧ RC E w St noNm l ((vs.toList.map (·.cells.toList)).flatten) [] ∧ vs.toList.map (fun v => (v.cells.size, isAggV v)) = l.map (fun a => (size E.sz a, isAgg a)) := by
      cases hc with
      | clo h1 h2 h3 => cases h3; exact ⟨rfl, _, rfl, h1, h2⟩
    obtain ⟨rfl, vs, rfl, h4, h5⟩ := hc'
    obtain ⟨ι', h1, h2, h3⟩ := nameAs_ok ok b l R h4 (by simpa [ptrs] using hp) hf (by simpa [nameA] using hM) hd hb
    exact ⟨ι', h1, .clo h2 (h5.trans h3.symm) .nil, rfl, rfl⟩
  | .none, s, ι, cs, bs, M, n, R, hc, hp, hf, hM, hd, hb => by cases hc
  | .tup l, s, ι, cs, bs, M, n, R, hc, hp, hf, hM, hd, hb => by cases hc
  | .own m, s, ι, cs, bs, M, n, R, hc, hp, hf, hM, hd, hb => by cases hc with | own h _ => simp [noNm] at h
  | .sub m c i len, s, ι, cs, bs, M, n, R, hc, hp, hf, hM, hd, hb => by cases hc with | sub h _ _ _ _ _ => simp [noNm] at h
  | .bsl m p c M' i len, s, ι, cs, bs, M, n, R, hc, hp, hf, hM, hd, hb => by cases hc with | bsl h _ _ _ _ _ _ => simp [noNm] at h
  | .ptr m p, s, ι, cs, bs, M, n, R, hc, hp, hf, hM, hd, hb => by simp [ptrs] at hp
  | .yld m, s, ι, cs, bs, M, n, R, hc, hp, hf, hM, hd, hb => by simp [ptrs] at hp
  | .tr c9 x9 p9, s, ι, cs, bs, M, n, R, hc, hp, hf, hM, hd, hb => by
    refine ⟨ι, Named.refl R hf, ?_, rfl, rfl⟩
    simp only [nameA]
    cases hc with
    | tr h1 hn => cases hn; exact .tr h1 .nil
  | .gh g9, s, ι, cs, bs, M, n, R, hc, hp, hf, hM, hd, hb => by
    refine ⟨ι, Named.refl R hf, ?_, rfl, rfl⟩
    simp only [nameA]
    cases hc with
    | gh hn => cases hn; exact .gh .nil
  | .int k m, s, ι, cs, bs, M, n, R, hc, hp, hf, hM, hd, hb => ⟨ι, Named.refl R hf, by simp only [nameA]; cases hc; rename_i hn; cases hn; exact .int .nil, rfl, rfl⟩
  | .bool k, s, ι, cs, bs, M, n, R, hc, hp, hf, hM, hd, hb => ⟨ι, Named.refl R hf, by simp only [nameA]; cases hc; rename_i hn; cases hn; exact .bool .nil, rfl, rfl⟩
  | .str k, s, ι, cs, bs, M, n, R, hc, hp, hf, hM, hd, hb => ⟨ι, Named.refl R hf, by simp only [nameA]; cases hc; rename_i hn; cases hn; exact .str .nil, rfl, rfl⟩
  | .nilp, s, ι, cs, bs, M, n, R, hc, hp, hf, hM, hd, hb => ⟨ι, Named.refl R hf, by simp only [nameA]; cases hc; rename_i hn; cases hn; exact .nilp .nil, rfl, rfl⟩
  | .nilf, s, ι, cs, bs, M, n, R, hc, hp, hf, hM, hd, hb => ⟨ι, Named.refl R hf, by simp only [nameA]; cases hc; rename_i hn; cases hn; exact .nilf .nil, rfl, rfl⟩
  | .nils c, s, ι, cs, bs, M, n, R, hc, hp, hf, hM, hd, hb => ⟨ι, Named.refl R hf, by simp only [nameA]; cases hc; rename_i hn; cases hn; exact .nils .nil, rfl, rfl⟩
  | .arr c k xs, s, ι, cs, bs, M, n, R, hc, hp, hf, hM, hd, hb => by
    obtain ⟨h1, h2, rfl⟩ := hc.arr_inv
    exact ⟨ι, Named.refl R hf, by simpa [nameA] using RC.arr h1 (h2.encs ok.toEnvOk (fun _ h => h)) .nil, rfl, rfl⟩
  | .ro g c xs, s, ι, cs, bs, M, n, R, hc, hp, hf, hM, hd, hb => by
    refine ⟨ι, Named.refl R hf, ?_, rfl, rfl⟩
    simp only [nameA]
    cases hc with
    | roE hn => cases hn; exact .roE .nil
    | ro h1 h2 h3 h4 hn => cases hn; exact .ro (h1.encs ok.toEnvOk (fun _ h => h)) h2 h3 h4 .nil
  | .clip g c xs, s, ι, cs, bs, M, n, R, hc, hp, hf, hM, hd, hb => by
    refine ⟨ι, Named.refl R hf, ?_, rfl, rfl⟩
    simp only [nameA]
    cases hc with
    | clipE hn => cases hn; exact .clipE .nil
    | clip h1 h2 h3 hn => cases hn; exact .clip (h1.encs ok.toEnvOk (fun _ h => h)) h2 h3 .nil
  | .rp g c xs i p, s, ι, cs, bs, M, n, R, hc, hp, hf, hM, hd, hb => by
    refine ⟨ι, Named.refl R hf, ?_, rfl, rfl⟩
    simp only [nameA]
    cases hc with
    | rp h1 h2 h3 h4 h5 hn => cases hn; exact .rp (h1.encs ok.toEnvOk (fun _ h => h)) h2 h3 h4 h5 .nil
theorem nameAs_ok (ok : EnvOk2 E) (b : Nat) : ∀ (q : List (A U)) {s : S U} {ι : Nat → Option Value} {cs : List Value} {bs : List Nat} {M n : Nat}, Rel E s N tm w ι St → RC E w St noNm q cs bs → ptrss q = [] →
    (∀ m, n ≤ m → m < M → ι m = none ∧ isLive (s.h m) = false) → (nameAs [] b q n).2.2 ≤ M → bs.Nodup → (∀ B ∈ bs, ¬ An St B ∧ ¬ Own s ι B) →
    ∃ ι', Named E s N tm w ι St (nameAs [] b q n).2.1 M n (nameAs [] b q n).2.2 bs ι' ∧ RC E w St ι' (nameAs [] b q n).1 cs [] ∧ (nameAs [] b q n).1.map (fun a => (size E.sz a, isAgg a)) = q.map (fun a => (size E.sz a, isAgg a))
  | [], s, ι, cs, bs, M, n, R, hc, hp, hf, hM, hd, hb => by cases hc; exact ⟨ι, Named.refl R hf, .nil, rfl⟩
  | q :: l, s, ι, cs, bs, M, n, R, hc, hp, hf, hM, hd, hb => by
    obtain ⟨c1, c2, b1, b2, rfl, rfl, h1, h2⟩ := RC.cons_inv hc
    obtain ⟨p1, p2⟩ := app_nil (by simpa [ptrss] using hp : ptrs q ++ ptrss l = [])
    obtain ⟨d1, d2, d3⟩ := List.nodup_append.1 hd
    obtain ⟨ι1, n1, r1, a1, z1⟩ := nameA_ok ok b q R h1 p1 hf (Nat.le_trans (nameAs_le b l _) (by simpa [nameAs] using hM)) d1 (fun B hB => hb B (List.mem_append_left _ hB))
    obtain ⟨ι2, n2, r2, m2⟩ := nameAs_ok ok b l n1.rel h2 p2 n1.free (by simpa [nameAs] using hM) d2 (fun B hB => ⟨(hb B (List.mem_append_right _ hB)).1, fun ho => by
      rcases n1.own B ho with h | h
      · exact (hb B (List.mem_append_right _ hB)).2 h
      · exact d3 B h B hB rfl⟩)
    refine ⟨ι2, ⟨?_, fun m v h => n2.nm m v (n1.nm m v h), fun m h => ?_, Nat.le_trans n1.le n2.le, fun m h hm => ?_, fun B h => ?_⟩, ?_, ?_⟩
    · simp only [nameAs, upds_append]; exact n2.rel
    · simp only [nameAs]
      rcases n2.new m h with h | h
      · rcases n1.new m h with h | h
        · exact .inl h
        · exact .inr ⟨h.1, Nat.lt_of_lt_of_le h.2 n2.le⟩
      · exact .inr ⟨Nat.le_trans n1.le h.1, h.2⟩
    · simp only [nameAs, upds_append] at h ⊢; exact n2.free m h hm
    · simp only [nameAs, upds_append] at h
      rcases n2.own B h with h | h
      · rcases n1.own B h with h | h
        · exact .inl h
        · exact .inr (List.mem_append_left _ h)
      · exact .inr (List.mem_append_right _ h)
    · simp only [nameAs]
      simpa using RC.cons (r1.ext (ext_names n2.nm)) r2
    · simp only [nameAs, List.map_cons, a1, z1, m2]
end

/-- lists that are lent for good -/
theorem fzOf_ok (ok : EnvOk2 E) : ∀ (l : List Nat) {s : S U} {h' : Nat → AObj U} {ι : Nat → Option Value} {St : Ck U → Nat → Prop}, Frz s.h h' → Rel E { s with h := h' } N tm w ι St →
    (∀ n c x, s.h n = .lst c x → h' n = .fz c x → ∀ B, blkO (ι n) = some B → ∀ g : Bool, St (.on g) B) →
    ∃ St', Ext w St ι w St' ι ∧ (∀ g B, St' g B → St g B ∨ Own s ι B) ∧ Rel E { s with h := upds h' (fzOf s.h l) } N tm w ι St' ∧ Frz s.h (upds h' (fzOf s.h l)) ∧
      (∀ m ∈ l, isLst (s.h m) = true → ∀ B, blkO (ι m) = some B → ∀ g : Bool, St' (.on g) B)
  | [], s, h', ι, St, f, R, hs => ⟨St, Ext.refl, fun _ _ h => .inl h, R, f, by simp⟩
  | m :: l, s, h', ι, St, f, R, hs => by
    cases hm : s.h m with
    | lst c x =>
      have e : fzOf s.h (m :: l) = (m, .fz c x) :: fzOf s.h l := by simp [fzOf, hm]
      rw [e]
      simp only [upds]
      rcases f m with h1 | ⟨c', l', h1, h2⟩
      · obtain ⟨St1, x1, g1, R1, q, q2⟩ := R.freeze (m := m) (c := c) (l := x) (by show h' m = _; rw [h1, hm])
        have f1 : Frz s.h (upd h' m (.fz c x)) := fun n => by
          by_cases e : n = m
          · subst e; exact .inr ⟨c, x, hm, upd_same _ _ _⟩
          · rw [upd_ne _ _ e]; exact f n
        obtain ⟨St2, x2, g2, R2, f2, p2⟩ := fzOf_ok ok l (s := s) f1 R1 (fun n c' x' h1 h2 B hB g => by
          by_cases e : n = m
          · subst e; exact q2 B hB g
          · rw [upd_ne _ _ e] at h2; exact x1.st _ _ (hs n c' x' h1 h2 B hB g))
        refine ⟨St2, x1.trans x2, fun g B h => (g2 g B h).elim (fun h => (g1 g B h).imp id fun ⟨n, h1, h2⟩ => ⟨n, f.live h1, h2⟩) .inr, R2, f2, fun k hk hl B hB g => ?_⟩
        rcases List.mem_cons.1 hk with rfl | hk
        · exact x2.st _ _ (q2 B hB g)
        · exact p2 k hk hl B hB g
      · rw [hm] at h1
        obtain ⟨rfl, h1⟩ := AObj.lst.inj h1
        obtain rfl := eq_of_heq h1
        have e : upd h' m (.fz c x) = h' := by rw [← h2, upd_self]
        rw [e]
        obtain ⟨St2, x2, g2, R2, f2, p2⟩ := fzOf_ok ok l (s := s) f R hs
        refine ⟨St2, x2, g2, R2, f2, fun k hk hl B hB g => ?_⟩
        rcases List.mem_cons.1 hk with rfl | hk
        · exact x2.st _ _ (hs k c x hm h2 B hB g)
        · exact p2 k hk hl B hB g
    | dead =>
      have e : fzOf s.h (m :: l) = fzOf s.h l := by simp [fzOf, hm]
      rw [e]
      obtain ⟨St2, x2, g2, R2, f2, p2⟩ := fzOf_ok ok l (s := s) f R hs
      exact ⟨St2, x2, g2, R2, f2, fun k hk hl => by rcases List.mem_cons.1 hk with rfl | hk; (rw [hm] at hl; simp [isLst] at hl); exact p2 k hk hl⟩
    | lp lf lid live vals j =>
      have e : fzOf s.h (m :: l) = fzOf s.h l := by simp [fzOf, hm]
      rw [e]
      obtain ⟨St2, x2, g2, R2, f2, p2⟩ := fzOf_ok ok l (s := s) f R hs
      exact ⟨St2, x2, g2, R2, f2, fun k hk hl => by rcases List.mem_cons.1 hk with rfl | hk; (rw [hm] at hl; simp [isLst] at hl); exact p2 k hk hl⟩
    | box q =>
      have e : fzOf s.h (m :: l) = fzOf s.h l := by simp [fzOf, hm]
      rw [e]
      obtain ⟨St2, x2, g2, R2, f2, p2⟩ := fzOf_ok ok l (s := s) f R hs
      exact ⟨St2, x2, g2, R2, f2, fun k hk hl => by rcases List.mem_cons.1 hk with rfl | hk; (rw [hm] at hl; simp [isLst] at hl); exact p2 k hk hl⟩
    | fz c x =>
      have e : fzOf s.h (m :: l) = fzOf s.h l := by simp [fzOf, hm]
      rw [e]
      obtain ⟨St2, x2, g2, R2, f2, p2⟩ := fzOf_ok ok l (s := s) f R hs
      exact ⟨St2, x2, g2, R2, f2, fun k hk hl => by rcases List.mem_cons.1 hk with rfl | hk; (rw [hm] at hl; simp [isLst] at hl); exact p2 k hk hl⟩
end
end Go.V
