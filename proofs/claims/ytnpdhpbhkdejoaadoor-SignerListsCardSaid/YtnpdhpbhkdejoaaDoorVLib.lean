/- V: small laws for the printed texts. -/
import Derived.Test.YtnpdhpbhkdejoaaDoorVSeat
set_option linter.unusedVariables false
set_option linter.unusedSimpArgs false
namespace Go.V

theorem Hold_eq (p : Prop) : Hold p = p := propext ⟨Hold.out, Hold.mk⟩
theorem wrap64 {n : Int} (h : -9223372036854775808 ≤ n ∧ n ≤ 9223372036854775807) : IntKind.i64.wrap n = n := by
  simp [IntKind.wrap, IntKind.signed, IntKind.bits]
  split <;> omega
theorem wrap8 {n : Int} (h : 0 ≤ n ∧ n ≤ 255) : IntKind.u8.wrap n = n := by
  simp [IntKind.wrap, IntKind.signed, IntKind.bits]
  omega
theorem wrap32 {n : Int} (h : 0 ≤ n ∧ n ≤ 4294967295) : IntKind.u32.wrap n = n := by
  simp [IntKind.wrap, IntKind.signed, IntKind.bits]
  omega
theorem cond_dec {p : Prop} [Decidable p] {A B : Prop} (h1 : p → A) (h2 : ¬ p → B) : cond (decide p) A B := by
  by_cases h : p
  · simp [h, h1 h]
  · simp [h, h2 h]
theorem cond_ndec {p : Prop} [Decidable p] {A B : Prop} (h1 : ¬ p → A) (h2 : p → B) : cond (!decide p) A B := by
  by_cases h : p
  · simp [h, h2 h]
  · simp [h, h1 h]
theorem cond_b {b : Bool} {A B : Prop} (h1 : b = true → A) (h2 : b = false → B) : cond b A B := by
  cases b
  · exact h2 rfl
  · exact h1 rfl
theorem cond_nb {b : Bool} {A B : Prop} (h1 : b = false → A) (h2 : b = true → B) : cond (!b) A B := by
  cases b
  · exact h1 rfl
  · exact h2 rfl
theorem cut_all {α : Type} (l : List α) {n : Nat} (h : l.length ≤ n) : cut l 0 n = l := by
  unfold cut; rw [List.drop_zero, List.take_of_length_le h]
theorem drop_cons {α : Type} {l : List α} {j : Nat} (h : j < l.length) : l.drop j = l[j] :: l.drop (j + 1) := List.drop_eq_getElem_cons h
theorem getD_at {α : Type} {l : List α} {j : Nat} {d : α} (h : j < l.length) : l.getD j d = l[j] := by simp [List.getD, h]

/-- bytes; a digest -/
def B8 (l : List Int) : Prop := ∀ x ∈ l, 0 ≤ x ∧ x ≤ 255
def Dig (d : List Int) : Prop := d.length = 32 ∧ B8 d
abbrev z32 : List Int := List.replicate 32 0
theorem B8.nil : B8 [] := fun _ h => nomatch h
theorem B8.cons {x : Int} {l : List Int} (h : 0 ≤ x ∧ x ≤ 255) (hl : B8 l) : B8 (x :: l) := List.forall_mem_cons.2 ⟨h, hl⟩
theorem B8.append {l m : List Int} (h : B8 l) (h' : B8 m) : B8 (l ++ m) := by
  intro x hx
  rcases List.mem_append.1 hx with hx | hx
  · exact h x hx
  · exact h' x hx
theorem B8.take {l : List Int} (h : B8 l) (n : Nat) : B8 (l.take n) := fun x hx => h x (List.mem_of_mem_take hx)
theorem B8.drop {l : List Int} (h : B8 l) (n : Nat) : B8 (l.drop n) := fun x hx => h x (List.mem_of_mem_drop hx)
theorem B8.flatten {l : List (List Int)} (h : ∀ d ∈ l, B8 d) : B8 l.flatten := by
  intro x hx
  obtain ⟨d, hd, hx⟩ := List.mem_flatten.1 hx
  exact h d hd x hx
theorem Dig.zero : Dig z32 := ⟨by simp, by intro x hx; have := List.eq_of_mem_replicate hx; omega⟩

/-- bytes are the same if their strings are -/
theorem bytesOf_inj : ∀ {l m : List Int}, B8 l → B8 m → bytesOf l = bytesOf m → l = m := by
  intro l m hl hm h
  have h1 : (l.map fun n => UInt8.ofNat n.toNat) = (m.map fun n => UInt8.ofNat n.toNat) := by
    have := congrArg (fun b => b.data.toList) h
    simpa [bytesOf] using this
  clear h
  induction l generalizing m with
  | nil => cases m with | nil => rfl | cons _ _ => simp at h1
  | cons x l ih =>
    cases m with
    | nil => simp at h1
    | cons y m =>
      simp only [List.map_cons, List.cons.injEq] at h1
      have hx := hl x (by simp)
      have hy := hm y (by simp)
      have e : x = y := by
        have := congrArg UInt8.toNat h1.1
        simp only [UInt8.toNat_ofNat'] at this
        omega
      rw [e, ih (fun z hz => hl z (by simp [hz])) (fun z hz => hm z (by simp [hz])) h1.2]
end Go.V
