/- V: a call by names: what a procedure promises, and the caller's state behind it. -/
import Derived.Test.YtnpdhpbhkdejoaaDoorVLay
import Derived.CallsIn
set_option linter.unusedVariables false
set_option linter.unusedSimpArgs false
namespace Go.V
variable {U : Nat → Type}
section
variable {E : Env U} {w : World} {St : Bool → Nat → Prop} {N : Nat} {tm : Array Value}

mutual
theorem mapA_size (g : Nat → Nat) : ∀ q : A U, size E.sz (mapA g q) = size E.sz q ∧ isAgg (mapA g q) = isAgg q
  | .agg l => ⟨by simp only [mapA, size]; exact mapAs_size g l, rfl⟩
  | .own m => ⟨rfl, rfl⟩
  | .tup l => ⟨rfl, rfl⟩
  | .clo f l => ⟨rfl, rfl⟩
  | .none => ⟨rfl, rfl⟩
  | .sub m c i len => ⟨rfl, rfl⟩
  | .bsl m p c M i len => ⟨rfl, rfl⟩
  | .ptr m p => ⟨rfl, rfl⟩
  | .yld m => ⟨rfl, rfl⟩
  | .int k m => ⟨rfl, rfl⟩
  | .bool k => ⟨rfl, rfl⟩
  | .str k => ⟨rfl, rfl⟩
  | .nilp => ⟨rfl, rfl⟩
  | .nilf => ⟨rfl, rfl⟩
  | .nils c => ⟨rfl, rfl⟩
  | .usl c l => ⟨rfl, rfl⟩
  | .arr c k xs => ⟨rfl, rfl⟩
  | .ro g c xs => ⟨rfl, rfl⟩
  | .clip g c xs => ⟨rfl, rfl⟩
  | .rp g c xs i p => ⟨rfl, rfl⟩
theorem mapAs_size (g : Nat → Nat) : ∀ q : List (A U), sizes E.sz (mapAs g q) = sizes E.sz q
  | [] => rfl
  | q :: l => by simp only [mapAs, sizes, (mapA_size g q).1, mapAs_size g l]
end
theorem mapAs_map (g : Nat → Nat) (l : List (A U)) : mapAs g l = l.map (mapA g) := by
  induction l with
  | nil => rfl
  | cons a l ih => simp only [mapAs, ih, List.map_cons]

theorem RC.map {ι ι' : Nat → Option Value} {g : Nat → Nat} (hg : ∀ n v, ι n = some v → ι' (g n) = some v) (clo : ∀ c (x : U c), mapA g (E.enc c x) = E.enc c x) (ok : EnvOk E) {l : List (A U)} {cs : List Value} {bs : List Nat}
    (h : RC E w St ι l cs bs) : RC E w St ι' (mapAs g l) cs bs := by
  have encs : ∀ {c : Nat} {xs : List (U c)} {ds : List Value}, RC E w St ι' (mapAs g (xs.map (E.enc c))) ds [] → RC E w St ι' (xs.map (E.enc c)) ds [] := by
    intro c xs ds h
    rw [mapAs_map, List.map_map] at h
    have : (mapA g ∘ E.enc c) = E.enc c := funext fun x => clo c x
    rwa [this] at h
  induction h with
  | nil => exact .nil
  | agg _ _ ih1 ih2 => exact .agg ih1 ih2
  | arr hn _ _ ih1 ih2 => exact .arr hn (encs ih1) ih2
  | int _ ih => exact .int ih
  | bool _ ih => exact .bool ih
  | str _ ih => exact .str ih
  | nilp _ ih => exact .nilp ih
  | nilf _ ih => exact .nilf ih
  | nils _ ih => exact .nils ih
  | roE _ ih => exact .roE ih
  | ro _ h2 h3 h4 _ ih1 ih => exact .ro (encs ih1) h2 h3 h4 ih
  | clipE _ ih => exact .clipE ih
  | clip _ h2 h3 _ ih1 ih => exact .clip (encs ih1) h2 h3 ih
  | uslE _ ih => exact .uslE ih
  | usl _ h2 h3 h4 h5 _ ih1 ih => exact .usl (encs ih1) h2 h3 h4 h5 ih
  | own h1 _ ih => exact .own (hg _ _ h1) ih
  | sub h1 h2 h3 h4 h5 _ ih => exact .sub (hg _ _ h1) h2 h3 h4 h5 ih
  | bsl h1 h2 h3 h4 h5 h6 _ ih => exact .bsl (hg _ _ h1) h2 h3 h4 h5 h6 ih
  | ptr h1 h2 h3 _ ih => exact .ptr (hg _ _ h1) h2 h3 ih
  | yld h1 _ ih => exact .yld (hg _ _ h1) ih
  | rp _ h2 h3 h4 h5 _ ih1 ih => exact .rp (encs ih1) h2 h3 h4 h5 ih
  | clo _ h2 _ ih1 ih =>
    refine .clo ih1 ?_ ih
    rw [h2, mapAs_map, List.map_map]
    exact List.map_congr_left fun a _ => by simp only [Function.comp, (mapA_size (E := E) g a).1, (mapA_size (E := E) g a).2]

mutual
theorem mapA_closed (g : Nat → Nat) : ∀ q : A U, closed q = true → mapA g q = q
  | .agg l, h => by simp only [mapA]; rw [mapAs_closed g l (by simpa [closed] using h)]
  | .clo f l, h => by simp only [mapA]; rw [mapAs_closed g l (by simpa [closed] using h)]
  | .own m, h => by simp [closed] at h
  | .tup l, h => by simp [closed] at h
  | .none, h => rfl
  | .sub m c i len, h => by simp [closed] at h
  | .bsl m p c M i len, h => by simp [closed] at h
  | .ptr m p, h => by simp [closed] at h
  | .yld m, h => by simp [closed] at h
  | .int k m, h => rfl
  | .bool k, h => rfl
  | .str k, h => rfl
  | .nilp, h => rfl
  | .nilf, h => rfl
  | .nils c, h => rfl
  | .usl c l, h => rfl
  | .arr c k xs, h => rfl
  | .ro g c xs, h => rfl
  | .clip g c xs, h => rfl
  | .rp g c xs i p, h => rfl
theorem mapAs_closed (g : Nat → Nat) : ∀ q : List (A U), closeds q = true → mapAs g q = q
  | [], h => rfl
  | q :: l, h => by
    simp only [closeds, Bool.and_eq_true] at h
    simp only [mapAs, mapA_closed g q h.1, mapAs_closed g l h.2]
end

section
variable {ι ι' : Nat → Option Value} {g : Nat → Nat}
theorem RC.map' (ok : EnvOk E) (hg : ∀ n v, ι n = some v → ι' (g n) = some v) {l : List (A U)} {cs : List Value} {bs : List Nat} (h : RC E w St ι l cs bs) : RC E w St ι' (mapAs g l) cs bs :=
  h.map hg (fun c x => mapA_closed g _ (ok.clo c x)) ok
theorem RV.map (ok : EnvOk E) (hg : ∀ n v, ι n = some v → ι' (g n) = some v) {a : A U} {v : Value} (h : RV E w St ι a v) : RV E w St ι' (mapA g a) v :=
  ⟨h.1.map' ok hg, h.2.trans (mapA_size (E := E) g a).2.symm⟩
theorem RVs.map (ok : EnvOk E) (hg : ∀ n v, ι n = some v → ι' (g n) = some v) : ∀ {l : List (A U)} {vs : List Value}, RVs E w St ι l vs → RVs E w St ι' (mapAs g l) vs
  | [], [], _ => trivial
  | [], _ :: _, h => h.elim
  | _ :: _, [], h => h.elim
  | a :: l, v :: vs, h => ⟨h.1.imp (fun e => by rw [e]; rfl) (fun h => RV.map ok hg h), RVs.map ok hg h.2⟩
theorem RT.map (ok : EnvOk E) (hg : ∀ n v, ι n = some v → ι' (g n) = some v) {a : A U} {v : Value} (h : RT E w St ι a v) : RT E w St ι' (mapA g a) v := by
  cases a with
  | none => exact trivial
  | tup l => obtain ⟨vs, rfl, h⟩ := h; exact ⟨vs, rfl, h.map ok hg⟩
  | _ => exact RV.map ok hg h
theorem RO.map (ok : EnvOk E) (hg : ∀ n v, ι n = some v → ι' (g n) = some v) {o : AObj U} {x : Option Value} (h : RO E w St ι o x) : RO E w St ι' (mapO g o) x := by
  have encs : ∀ {c : Nat} {xs : List (U c)} {ds : List Value}, RC E w St ι (xs.map (E.enc c)) ds [] → RC E w St ι' (xs.map (E.enc c)) ds [] := by
    intro c xs ds h
    have := h.map' ok hg
    rw [mapAs_map, List.map_map] at this
    have e : (mapA g ∘ E.enc c) = E.enc c := funext fun x => mapA_closed g _ (ok.clo c x)
    rwa [e] at this
  cases o with
  | dead => trivial
  | lp lf lid live vals j => obtain ⟨r, L, h1, h2, h3, h4, h5⟩ := h; exact ⟨r, L, h1, h2, h3, h4.map ok hg, h5⟩
  | box a => obtain ⟨B, cs, h1, h2, h3⟩ := h; exact ⟨B, cs, h1, h2.map' ok hg, h3⟩
  | lst c xs =>
    rcases h with h | ⟨B, off, cap, ds, h1, h2, h3⟩
    · exact .inl h
    · exact .inr ⟨B, off, cap, ds, h1, encs h2, h3⟩
  | fz c xs =>
    obtain ⟨v, h1, h2⟩ := h
    exact ⟨v, h1, by have := h2.map' ok hg; simpa [mapAs, mapA] using this⟩
theorem mapO_live (g : Nat → Nat) (o : AObj U) : isLive (mapO g o) = isLive o := by cases o <;> rfl
end

/-- what a procedure leaves -/
structure ResP (E : Env U) (w : World) (St : Bool → Nat → Prop) (O : Nat → Prop) (ι : Nat → Option Value) (nb : Nat) (K : A U → List (AObj U) → Prop) (v : Value) (w' : World) (r : A U) (objs : List (AObj U)) (ι' : Nat → Option Value) (St' : Bool → Nat → Prop) : Prop where
  k : K r objs
  val : RT E w' St' ι' r v
  heap : HeapR E (nthO objs) w' ι' St'
  out : ∀ n, objs.length ≤ n → ι' n = none
  old : ∀ n, n < nb → ι' n = ι n
  fr : Fr O w w'
  own : ∀ B, OwnH (nthO objs) ι' B → O B ∨ w.heap.size ≤ B
  gr : ∀ g B, St' g B → St g B ∨ O B ∨ w.heap.size ≤ B

/-- what a procedure's row of the table promises -/
def ProcSound (E : Env U) (f : FuncId) (args : List (A U)) (objs : List (AObj U)) (K : A U → List (AObj U) → Prop) : Prop :=
  (∃ fn, E.P.funcs[f]? = some fn ∧ fn.body.isSome = true ∧ (fn.name == "runtime.NumGoroutine") = false) ∧
  ∀ (w : World) (St : Bool → Nat → Prop) (ι : Nat → Option Value) (vs : Array Value), RVs E w St ι args vs.toList → HeapR E (nthO objs) w ι St → (∀ m, objs.length ≤ m → ι m = none) →
    Calls E.P f vs w fun e w' => ∃ r v objs' ι' St', e = .returned v ∧ ResP E w St (OwnH (nthO objs) ι) ι objs.length K v w' r objs' ι' St'

/-- frames of every function; in a round, or in none -/
abbrev FR (ro : Option Nat) : Fence := { fn := fun _ => True, depth := .none, alive := false, round := ro }
/-- a loop's record behind a round that was left so -/
def endL (L : Loop) (j : Nat) : Loop := { L with state := if j = 0 then .ready else .done, pending := jumpOf j }
/-- what a round leaves -/
def RndPost (E : Env U) (l : Nat) (L : Loop) (w : World) (St : Bool → Nat → Prop) (O : Nat → Prop) (ι : Nat → Option Value) (nb : Nat) (K : A U → List (AObj U) → Prop) (e : Ending) (w' : World) : Prop :=
  ∃ j objs' ι' St', e = .returned (.bool (Nat.beq j 0)) ∧ w'.heap[l]? = some (.loop (endL L j)) ∧ ResP E w St O ι nb K (.func (.func j) #[] #[]) w' (.clo j []) objs' ι' St' ∧ ¬ OwnH (nthO objs') ι' l ∧ ¬ An St' l
/-- what a round's row of the table promises -/
def RoundFits (E : Env U) (f : FuncId) (id : Nat) (args : List (A U)) : Prop :=
  ∀ live L, LoopIs E f id live L → args.length = L.params.size + live.length ∧ (L.params.toList ++ live).Nodup ∧ ∀ p ∈ L.params.toList, p < L.tmps.size
def RoundSound (E : Env U) (f : FuncId) (id : Nat) (args : List (A U)) (objs : List (AObj U)) (K : A U → List (AObj U) → Prop) : Prop :=
  RoundFits E f id args ∧ ∀ (ro : Option Nat) (w : World) (St : Bool → Nat → Prop) (ι : Nat → Option Value) (l : Nat) (live : List Nat) (L : Loop) (tmps : Array Value), LoopIs E f id live L → tmps.size = L.tmps.size →
    RVs E w St ι args ((L.params.toList ++ live).map fun d => tmps.getD d undef) → HeapR E (nthO objs) w ι St → (∀ m, objs.length ≤ m → ι m = none) →
    w.heap[l]? = some (.loop L) → L.state = .ready → ¬ OwnH (nthO objs) ι l → ¬ An St l →
    RoundIn (FR ro) 0 E.P l f tmps L.assign L.body w (RndPost E l L w St (fun B => OwnH (nthO objs) ι B ∨ B = l) ι objs.length K)

def RowSound (E : Env U) (f : FuncId) (args : List (A U)) (objs : List (AObj U)) (K : A U → List (AObj U) → Prop) : Prop :=
  (Nat.blt f 1000000 = true → (memN f E.procs = false → objs = [] → FnSound E f args K) ∧ (memN f E.procs = true → ProcSound E f args objs K)) ∧ ∀ g id, Nat.blt id 1000000 = true → f = ykey g id → RoundSound E g id args objs K
def TSound (E : Env U) (T : Tab U) : Prop := ∀ f args objs K, T f args objs K → RowSound E f args objs K

-- a callee's names, in the caller
theorem nthN_lt : ∀ {L : List Nat} {k d : Nat}, k < L.length → L[k]? = some (nthN L k d)
  | [], k, d, h => by simp at h
  | a :: l, 0, d, h => rfl
  | a :: l, k + 1, d, h => by simpa [nthN] using nthN_lt (L := l) (d := d) (by simpa using h)
theorem nthN_ge : ∀ {L : List Nat} {k d : Nat}, L.length ≤ k → nthN L k d = d
  | [], k, d, h => by cases k <;> rfl
  | a :: l, 0, d, h => by simp at h
  | a :: l, k + 1, d, h => by simpa [nthN] using nthN_ge (L := l) (d := d) (by simpa using h)
theorem unr_lt {L : List Nat} {n k : Nat} (h : k < L.length) : L[k]? = some (unr L n k) := nthN_lt h
theorem unr_ge {L : List Nat} {n k : Nat} (h : L.length ≤ k) : unr L n k = n + (k - L.length) := nthN_ge h

/-- they are apart -/
theorem unr_inj {L : List Nat} {n M : Nat} (hn : L.Nodup) (hL : ∀ m ∈ L, m < n ∨ M ≤ m) {i j : Nat} (hi : L.length ≤ i → n + (i - L.length) < M) (hj : L.length ≤ j → n + (j - L.length) < M) (h : unr L n i = unr L n j) : i = j := by
  by_cases h1 : i < L.length
  · by_cases h2 : j < L.length
    · have e1 := unr_lt (n := n) h1
      have e2 := unr_lt (n := n) h2
      rw [h] at e1
      exact nodup_inj hn e1 e2
    · have e1 := List.mem_of_getElem? (unr_lt (n := n) h1)
      have e2 := unr_ge (n := n) (Nat.le_of_not_lt h2)
      have := hL _ e1
      rw [h, e2] at this
      have := hj (Nat.le_of_not_lt h2)
      omega
  · have e1 := unr_ge (n := n) (Nat.le_of_not_lt h1)
    by_cases h2 : j < L.length
    · have e2 := List.mem_of_getElem? (unr_lt (n := n) h2)
      have := hL _ e2
      rw [← h, e1] at this
      have := hi (Nat.le_of_not_lt h1)
      omega
    · have e2 := unr_ge (n := n) (Nat.le_of_not_lt h2)
      omega

theorem wrP_names {L : List Nat} {n : Nat} : ∀ (k : Nat) (l : List (AObj U)), ∀ x ∈ wrP L n k l, ∃ i, k ≤ i ∧ i < k + l.length ∧ x.1 = unr L n i
  | k, [], x, hx => by simp [wrP] at hx
  | k, o :: l, x, hx => by
    simp only [wrP, List.mem_cons] at hx
    rcases hx with rfl | hx
    · exact ⟨k, Nat.le_refl _, by simp, rfl⟩
    · obtain ⟨i, h1, h2, h3⟩ := wrP_names (k + 1) l x hx
      exact ⟨i, by omega, by simp; omega, h3⟩
theorem nthO_get : ∀ (l : List (AObj U)) (k : Nat), nthO l k = (l[k]?).getD .dead
  | [], k => by simp [nthO]
  | a :: l, 0 => rfl
  | a :: l, k + 1 => by simpa [nthO] using nthO_get l k
theorem upds_wrP {L : List Nat} {n : Nat} : ∀ (l : List (AObj U)) (k : Nat) (h : Nat → AObj U), (∀ i j, k ≤ i → i < k + l.length → k ≤ j → j < k + l.length → unr L n i = unr L n j → i = j) →
    ∀ i, i < l.length → upds h (wrP L n k l) (unr L n (k + i)) = mapO (unr L n) (nthO l i)
  | [], k, h, hinj, i, hi => by simp at hi
  | o :: l, k, h, hinj, i, hi => by
    simp only [wrP, upds]
    cases i with
    | zero =>
      show upds _ (wrP L n (k + 1) l) (unr L n k) = _
      rw [upds_notin, upd_same]
      · rfl
      · intro hm
        obtain ⟨x, hx, e⟩ := List.mem_map.1 hm
        obtain ⟨j, h1, h2, h3⟩ := wrP_names (k + 1) l x hx
        have := hinj k j (Nat.le_refl _) (by simp) (by omega) (by simp; omega) (by rw [← h3, e])
        omega
    | succ i =>
      have := upds_wrP l (k + 1) (upd h (unr L n k) (mapO (unr L n) o)) (fun i j h1 h2 h3 h4 => hinj i j (by omega) (by simp; omega) (by omega) (by simp; omega)) i (by simpa using hi)
      rw [show k + (i + 1) = k + 1 + i by omega, this]
      rfl
end
end Go.V
