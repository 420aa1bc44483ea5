/- V, fourth part: states. -/
import Derived.Test.YtnpdhpbhkdejoaaDoorVRel
set_option linter.unusedVariables false
namespace Go.V
variable {U : Nat → Type}

/-- one value -/
def RV (E : Env U) (w : World) (St : Bool → Nat → Prop) (ι : Nat → Option Value) (a : A U) (v : Value) : Prop :=
  RC E w St ι [a] v.cells.toList [] ∧ isAggV v = isAgg a
def RVs (E : Env U) (w : World) (St : Bool → Nat → Prop) (ι : Nat → Option Value) : List (A U) → List Value → Prop
  | [], [] => True
  | a :: l, v :: vs => (a = .none ∨ RV E w St ι a v) ∧ RVs E w St ι l vs
  | _, _ => False
/-- what a temporary holds -/
def RT (E : Env U) (w : World) (St : Bool → Nat → Prop) (ι : Nat → Option Value) (a : A U) (v : Value) : Prop :=
  match a with
  | .none => True
  | .tup l => ∃ vs, v = .tuple vs ∧ RVs E w St ι l vs.toList
  | a => RV E w St ι a v

def isLive : AObj U → Bool
  | .box _ | .lst .. | .lp .. => true
  | _ => false
/-- a loop's record is that of the loop 'id' of f -/
def LoopIs (E : Env U) (f : FuncId) (id : Nat) (live : List Nat) (L : Loop) : Prop :=
  (loopOf f id E.loops = some live ∧ L.fn = f) ∧ (∃ g k, ctxAll (1000000 + id) (bodyOf E.P f) = .code (.rangeFunc g L.params L.assign L.body) :: k) ∧ ∃ fn, E.P.funcs[f]? = some fn ∧ fn.ntmps ≤ L.tmps.size
def jumpOf : Nat → Option Code
  | 0 => .none
  | 1 => some .ret
  | j + 2 => some (.exit j)
/-- how a round was left -/
def JumpIs (j : Nat) (L : Loop) : Prop := L.state = (if j = 0 then .ready else .done) ∧ L.pending = jumpOf j
/-- what a name stands for -/
def RO (E : Env U) (w : World) (St : Bool → Nat → Prop) (ι : Nat → Option Value) (o : AObj U) (x : Option Value) : Prop :=
  match o with
  | .dead => True
  | .box a => ∃ B cs, x = some (.pointer (some ⟨B, 0, .none⟩)) ∧ RC E w St ι [a] cs [] ∧ w.rangeAt B 0 cs ∧ w.there B 0 cs.length ∧ B < w.heap.size
  | .lst c xs => ((∃ a, x = some (.slice a 0 0)) ∧ xs = []) ∨ ∃ B off C ds, x = some (.slice (some ⟨B, off, .none⟩) xs.length (C + 1)) ∧ RC E w St ι (xs.map (E.enc c)) ds [] ∧
      w.rangeAt B off ds ∧ w.there B off ((C + 1) * E.sz c) ∧ xs.length ≤ C + 1 ∧ B < w.heap.size
  | .fz c xs => ∃ v, x = some v ∧ RC E w St ι [.ro false c xs] [v] []
  | .lp f id live vals j => ∃ r L, x = some (.func (.yield r) #[] #[]) ∧ w.heap[r]? = some (.loop L) ∧ LoopIs E f id live L ∧ RVs E w St ι vals (live.map fun d => L.tmps.getD d undef) ∧ JumpIs j L

def blkO (x : Option Value) : Option Nat := x.bind blk

abbrev noNm : Nat → Option Value := fun _ => none
/-- what stays: what is lent for good is lent; the package variables are as they were -/
structure Sup (E : Env U) (w : World) (St : Bool → Nat → Prop) : Prop where
  up : ∀ B, St false B → St true B
  glo : ∀ g, RT E w St noNm (E.glob g) (.pointer (some ⟨g, 0, .none⟩))
structure Rel (E : Env U) (s : S U) (N : Nat) (tm : Array Value) (w : World) (ι : Nat → Option Value) (St : Bool → Nat → Prop) : Prop where
  tsz : tm.size = N
  tmp : ∀ d, RT E w St ι (s.t d) (tm.getD d undef)
  obj : ∀ n, RO E w St ι (s.h n) (ι n)
  dis : ∀ n m B, isLive (s.h n) = true → isLive (s.h m) = true → blkO (ι n) = some B → blkO (ι m) = some B → n = m
  stb : ∀ B, An St B → B < w.heap.size
  apt : ∀ n B, isLive (s.h n) = true → blkO (ι n) = some B → ¬ An St B
  sup : Sup E w St

/-- the world behind: what has become of it, but for the blocks of O and new ones -/
structure Fr (O : Nat → Prop) (w w' : World) : Prop where
  size : w.heap.size ≤ w'.heap.size
  same : ∀ b, b < w.heap.size → ¬ O b → w'.heap[b]? = w.heap[b]?
  out : w'.output = w.output
  os : w'.os = w.os
  tape : w'.tape = w.tape

theorem Fr.refl (O : Nat → Prop) (w : World) : Fr O w w := ⟨Nat.le_refl _, fun _ _ _ => rfl, rfl, rfl, rfl⟩
theorem Fr.trans {O : Nat → Prop} {w w1 w2 : World} (h : Fr O w w1) (h' : Fr O w1 w2) : Fr O w w2 :=
  ⟨Nat.le_trans h.size h'.size, fun b hb ho => (h'.same b (Nat.lt_of_lt_of_le hb h.size) ho).trans (h.same b hb ho), h'.out.trans h.out, h'.os.trans h.os, h'.tape.trans h.tape⟩
theorem Fr.mono {O O' : Nat → Prop} {w w' : World} (h : Fr O w w') (ho : ∀ b, b < w.heap.size → O b → O' b) : Fr O' w w' :=
  ⟨h.size, fun b hb hn => h.same b hb fun x => hn (ho b hb x), h.out, h.os, h.tape⟩
theorem Fr.drew (O : Nat → Prop) (w : World) : Fr O w w.drew := ⟨Nat.le_refl _, fun _ _ _ => rfl, rfl, rfl, rfl⟩
theorem Fr.alloc (O : Nat → Prop) (w : World) (o : Obj) : Fr O w (w.alloc o) :=
  ⟨by simp, fun b hb _ => by simp only [World.alloc, Array.getElem?_push]; rw [if_neg (by omega)], rfl, rfl, rfl⟩
theorem heap_setCell (w : World) (a : Addr) (v : Value) (b : Nat) (h : b ≠ a.block) : (w.setCell a v).heap[b]? = w.heap[b]? := by
  simp only [World.setCell, Array.getElem?_modify]
  rw [if_neg (fun e => h e.symm)]
theorem heap_setCells (B : Nat) : ∀ (vs : List Value) (o : Nat) (w : World) (b : Nat), b ≠ B → (w.setCells B o vs).heap[b]? = w.heap[b]?
  | [], _, _, _, _ => rfl
  | v :: r, o, w, b, h => by rw [World.setCells, heap_setCells B r _ _ b h, heap_setCell _ _ _ _ h]
theorem size_setCells (B : Nat) : ∀ (vs : List Value) (o : Nat) (w : World), (w.setCells B o vs).heap.size = w.heap.size
  | [], _, _ => rfl
  | v :: r, o, w => by rw [World.setCells, size_setCells B r]; simp
theorem out_setCells (B : Nat) : ∀ (vs : List Value) (o : Nat) (w : World), (w.setCells B o vs).output = w.output ∧ (w.setCells B o vs).os = w.os ∧ (w.setCells B o vs).tape = w.tape
  | [], _, _ => ⟨rfl, rfl, rfl⟩
  | v :: r, o, w => by rw [World.setCells]; exact out_setCells B r _ _
theorem Fr.setCells {O : Nat → Prop} (w : World) (B o : Nat) (vs : List Value) (h : O B) : Fr O w (w.setCells B o vs) :=
  ⟨by rw [size_setCells]; omega, fun b _ hn => heap_setCells B vs o w b fun e => hn (e ▸ h), (out_setCells B vs o w).1, (out_setCells B vs o w).2.1, (out_setCells B vs o w).2.2⟩

section
variable {E : Env U} {w w' : World} {St St' : Bool → Nat → Prop} {ι ι' : Nat → Option Value}

structure Ext (w : World) (St : Bool → Nat → Prop) (ι : Nat → Option Value) (w' : World) (St' : Bool → Nat → Prop) (ι' : Nat → Option Value) : Prop where
  st : ∀ g b, St g b → St' g b
  nm : ∀ n v, ι n = some v → ι' n = some v
  hp : ∀ b, An St b → w'.heap[b]? = w.heap[b]?
  sz : w.heap.size ≤ w'.heap.size

theorem Ext.refl : Ext w St ι w St ι := ⟨fun _ _ h => h, fun _ _ h => h, fun _ _ => rfl, Nat.le_refl _⟩
theorem RC.ext {l : List (A U)} {cs : List Value} (h : RC E w St ι l cs []) (x : Ext w St ι w' St' ι') : RC E w' St' ι' l cs [] :=
  h.mono x.st x.nm (fun b hb => x.hp b (hb.resolve_right (by simp))) x.sz
theorem RV.ext {a : A U} {v : Value} (h : RV E w St ι a v) (x : Ext w St ι w' St' ι') : RV E w' St' ι' a v := ⟨h.1.ext x, h.2⟩
theorem RVs.ext (x : Ext w St ι w' St' ι') : ∀ {l : List (A U)} {vs : List Value}, RVs E w St ι l vs → RVs E w' St' ι' l vs
  | [], [], h => trivial
  | a :: l, v :: vs, h => ⟨h.1.imp id fun h => h.ext x, RVs.ext x h.2⟩
  | [], _ :: _, h => h.elim
  | _ :: _, [], h => h.elim
theorem RT.ext {a : A U} {v : Value} (h : RT E w St ι a v) (x : Ext w St ι w' St' ι') : RT E w' St' ι' a v := by
  cases a with
  | none => trivial
  | tup l => obtain ⟨vs, hv, hr⟩ := h; exact ⟨vs, hv, hr.ext x⟩
  | _ => exact RV.ext h x

theorem Sup.ext (h : Sup E w St) (x : Ext w St ι w' St' ι') (hu : ∀ B, St' false B → St' true B) : Sup E w' St' :=
  ⟨hu, fun g => (h.glo g).ext ⟨x.st, fun _ _ h => by simp at h, x.hp, x.sz⟩⟩

theorem rangeAt_of_heap {b off : Nat} {ds : List Value} (hb : w'.heap[b]? = w.heap[b]?) (h : w.rangeAt b off ds) : w'.rangeAt b off ds := by
  intro j v hj
  have := h j v hj
  simp only [World.cell?] at this ⊢
  rw [hb]; exact this
theorem there_of_heap {b off n : Nat} (hb : w'.heap[b]? = w.heap[b]?) (h : w.there b off n) : w'.there b off n := by
  intro j hj
  have := h j hj
  simp only [World.cell?, World.frozen?] at this ⊢
  rw [hb]; exact this

theorem base_zero (a : Option Addr) (n : Nat) : base (.slice a n 0) = .none := by
  cases a with
  | none => rfl
  | some x => obtain ⟨b, o, m⟩ := x; cases m <;> rfl
theorem base_pos {b o n c : Nat} (h : 0 < c) : base (.slice (some ⟨b, o, .none⟩) n c) = some (b, o) := by
  obtain ⟨c, rfl⟩ := Nat.exists_eq_succ_of_ne_zero (Nat.ne_of_gt h); rfl
theorem base_inv {b o n c : Nat} {x : Nat × Nat} (h : base (.slice (some ⟨b, o, .none⟩) n c) = some x) : x = (b, o) ∧ 0 < c := by
  cases c with
  | zero => rw [base_zero] at h; cases h
  | succ c => exact ⟨(Option.some.inj h).symm, Nat.succ_pos _⟩

theorem RO.lst_of {c : Nat} {xs : List (U c)} {x : Option Value} {B off cap : Nat} {ds : List Value} (h0 : 0 < cap) (hx : x = some (.slice (some ⟨B, off, .none⟩) xs.length cap)) (h1 : RC E w St ι (xs.map (E.enc c)) ds []) (h2 : w.rangeAt B off ds)
    (h3 : w.there B off (cap * E.sz c)) (h4 : xs.length ≤ cap) (h5 : B < w.heap.size) : RO E w St ι (.lst c xs) x := by
  obtain ⟨C, rfl⟩ := Nat.exists_eq_succ_of_ne_zero (Nat.ne_of_gt h0)
  exact .inr ⟨B, off, C, ds, hx, h1, h2, h3, h4, h5⟩
theorem blk_pos {b o n c : Nat} (h : 0 < c) : blk (.slice (some ⟨b, o, .none⟩) n c) = some b := by unfold blk; rw [base_pos h]; rfl
theorem blk_inv {b o n c B : Nat} (h : blk (.slice (some ⟨b, o, .none⟩) n c) = some B) : B = b ∧ 0 < c := by
  unfold blk at h
  cases hb : base (.slice (some ⟨b, o, .none⟩) n c) with
  | none => rw [hb] at h; cases h
  | some x => rw [hb] at h; obtain ⟨rfl, h2⟩ := base_inv hb; exact ⟨(Option.some.inj h).symm, h2⟩

theorem RO.ext {o : AObj U} {x y : Option Value} (h : RO E w St ι o x) (e : Ext w St ι w' St' ι') (hxy : ∀ v, x = some v → y = some v) (hb : ∀ b, isLive o = true → blkO x = some b → w'.heap[b]? = w.heap[b]?) : RO E w' St' ι' o y := by
  cases o with
  | dead => trivial
  | box a =>
    obtain ⟨B, cs, rfl, h1, h2, h3, h4⟩ := h
    have hh := hb B rfl rfl
    exact ⟨B, cs, hxy _ rfl, h1.ext e, rangeAt_of_heap hh h2, there_of_heap hh h3, Nat.lt_of_lt_of_le h4 e.sz⟩
  | lst c xs =>
    rcases h with ⟨⟨a, h1⟩, h2⟩ | ⟨B, off, cap, ds, rfl, h1, h2, h3, h4, h5⟩
    · exact .inl ⟨⟨a, hxy _ h1⟩, h2⟩
    · have hh := hb B rfl rfl
      exact .inr ⟨B, off, cap, ds, hxy _ rfl, h1.ext e, rangeAt_of_heap hh h2, there_of_heap hh h3, h4, Nat.lt_of_lt_of_le h5 e.sz⟩
  | fz c xs =>
    obtain ⟨v, rfl, h⟩ := h
    exact ⟨v, hxy _ rfl, h.ext e⟩
  | lp f id live vals j =>
    obtain ⟨r, L, rfl, h1, h2, h3, h4⟩ := h
    exact ⟨r, L, hxy _ rfl, (hb r rfl rfl).trans h1, h2, h3.ext e, h4⟩

theorem getD_put (tm : Array Value) (d e : Nat) (u : Value) : (tm.setIfInBounds d u).getD e undef = if d = e ∧ d < tm.size then u else tm.getD e undef := by
  simp only [Array.getD_eq_getD_getElem?]
  by_cases h : d = e
  · subst h
    by_cases h2 : d < tm.size
    · simp [h2]
    · simp [h2]
  · simp [h, Array.getElem?_setIfInBounds_ne h]

theorem upd_eq {α : Type} (f : Nat → α) (n m : Nat) (x : α) : upd f n x m = if m = n then x else f m := by
  unfold upd
  by_cases h : m = n
  · subst h; simp
  · rw [if_neg h]
    have : Nat.beq m n = false := by
      cases hb : Nat.beq m n
      · rfl
      · exact absurd (Nat.eq_of_beq_eq_true hb) h
    rw [this]; rfl
@[simp] theorem upd_same {α : Type} (f : Nat → α) (n : Nat) (x : α) : upd f n x n = x := by rw [upd_eq, if_pos rfl]
theorem upd_ne {α : Type} (f : Nat → α) {n m : Nat} (x : α) (h : m ≠ n) : upd f n x m = f m := by rw [upd_eq, if_neg h]
theorem upd_upd {α : Type} (f : Nat → α) (n : Nat) (x y : α) : upd (upd f n x) n y = upd f n y := by
  funext m; by_cases h : m = n <;> simp [upd_eq, h]
theorem upd_comm {α : Type} (f : Nat → α) {n m : Nat} (x y : α) (h : n ≠ m) : upd (upd f n x) m y = upd (upd f m y) n x := by
  funext k
  simp only [upd_eq]
  by_cases h1 : k = m
  · subst h1; simp [Ne.symm h]
  · simp [h1]
theorem upd_self {α : Type} (f : Nat → α) (n : Nat) : upd f n (f n) = f := by
  funext m; by_cases h : m = n <;> simp [upd_eq, h]

variable {s : S U} {N : Nat} {tm : Array Value}

theorem Rel.tmp' (R : Rel E s N tm w ι St) (d : Nat) (hd : d < N) {v : A U} {u : Value} (hv : RT E w St ι v u) : Rel E { s with t := upd s.t d v } N (tm.setIfInBounds d u) w ι St := by
  refine ⟨by simp [R.tsz], fun e => ?_, R.obj, R.dis, R.stb, R.apt, R.sup⟩
  rw [getD_put, R.tsz]
  by_cases h : d = e
  · subst h; simp [hd, hv]
  · simp only [h, false_and, if_false]
    show RT E w St ι (upd s.t d v e) _
    rw [upd_ne _ _ (Ne.symm h)]
    exact R.tmp e

theorem Rel.forget (R : Rel E s N tm w ι St) (d : Nat) (u : Value) : Rel E { s with t := upd s.t d .none } N (tm.setIfInBounds d u) w ι St := by
  refine ⟨by simp [R.tsz], fun e => ?_, R.obj, R.dis, R.stb, R.apt, R.sup⟩
  show RT E w St ι (upd s.t d .none e) _
  by_cases h : e = d
  · subst h; rw [upd_same]; trivial
  · rw [upd_ne _ _ h, getD_put, if_neg (fun x => h x.1.symm)]
    exact R.tmp e

theorem Rel.kill (R : Rel E s N tm w ι St) (n : Nat) : Rel E { s with h := upd s.h n .dead } N tm w ι St := by
  have hl : ∀ m, isLive (upd s.h n .dead m) = true → m ≠ n ∧ isLive (s.h m) = true := by
    intro m hm
    by_cases h : m = n
    · subst h; rw [upd_same] at hm; exact absurd hm (by simp [isLive])
    · rw [upd_ne _ _ h] at hm; exact ⟨h, hm⟩
  refine ⟨R.tsz, R.tmp, fun m => ?_, fun a b B ha hb => R.dis a b B (hl a ha).2 (hl b hb).2, R.stb, fun m B hm => R.apt m B (hl m hm).2, R.sup⟩
  by_cases h : m = n
  · subst h; show RO E w St ι (upd s.h m .dead m) _; rw [upd_same]; trivial
  · show RO E w St ι (upd s.h n .dead m) _; rw [upd_ne _ _ h]; exact R.obj m

theorem Rel.world (R : Rel E s N tm w ι St) (hsz : w.heap.size ≤ w'.heap.size) (hs : ∀ B, An St B → w'.heap[B]? = w.heap[B]?)
    (hl : ∀ n B, isLive (s.h n) = true → blkO (ι n) = some B → w'.heap[B]? = w.heap[B]?) : Rel E s N tm w' ι St := by
  have e : Ext w St ι w' St ι := ⟨fun _ _ h => h, fun _ _ h => h, hs, hsz⟩
  exact ⟨R.tsz, fun d => (R.tmp d).ext e, fun n => (R.obj n).ext e (fun _ h => h) (fun b h1 h2 => hl n b h1 h2), R.dis, fun B hB => Nat.lt_of_lt_of_le (R.stb B hB) hsz, R.apt, R.sup.ext e R.sup.up⟩

theorem Rel.adopt (R : Rel E s N tm w ι St) (n : Nat) (o : AObj U) (v : Value) (hn : isLive (s.h n) = false) (hι : ι n = none ∨ ι n = some v)
    (ho : RO E w St (upd ι n (some v)) o (some v)) (hB : ∀ B, isLive o = true → blk v = some B → ¬ An St B ∧ ∀ m, isLive (s.h m) = true → blkO (ι m) ≠ some B) :
    Rel E { s with h := upd s.h n o } N tm w (upd ι n (some v)) St := by
  have hx : ∀ m u, ι m = some u → upd ι n (some v) m = some u := by
    intro m u hm
    by_cases h : m = n
    · subst h; rw [upd_same]; rcases hι with h0 | h0 <;> rw [h0] at hm <;> simp_all
    · rw [upd_ne _ _ h]; exact hm
  have e : Ext w St ι w St (upd ι n (some v)) := ⟨fun _ _ h => h, hx, fun _ _ => rfl, Nat.le_refl _⟩
  have hl : ∀ m, m ≠ n → isLive (upd s.h n o m) = true → isLive (s.h m) = true ∧ upd ι n (some v) m = ι m := fun m h hm => by
    rw [upd_ne _ _ h] at hm; exact ⟨hm, upd_ne _ _ h⟩
  refine ⟨R.tsz, fun d => (R.tmp d).ext e, fun m => ?_, fun a b B ha hb h1 h2 => ?_, R.stb, fun m B hm h1 => ?_, R.sup⟩
  · by_cases h : m = n
    · subst h; show RO E w St _ (upd s.h m o m) _; rw [upd_same, upd_same]; exact ho
    · show RO E w St _ (upd s.h n o m) _; rw [upd_ne _ _ h]
      exact (R.obj m).ext e (hx m) (fun _ _ _ => rfl)
  · by_cases ha' : a = n
    · by_cases hb' : b = n
      · rw [ha', hb']
      · subst ha'
        obtain ⟨q1, q2⟩ := hl b hb' hb
        rw [upd_same] at h1
        have ha2 : isLive o = true := by change isLive (upd s.h a o a) = true at ha; rw [upd_same] at ha; exact ha
        rw [q2] at h2
        exact absurd h2 ((hB B ha2 h1).2 b q1)
    · by_cases hb' : b = n
      · subst hb'
        obtain ⟨q1, q2⟩ := hl a ha' ha
        have hb2 : isLive o = true := by change isLive (upd s.h b o b) = true at hb; rw [upd_same] at hb; exact hb
        rw [upd_same] at h2
        rw [q2] at h1
        exact absurd h1 ((hB B hb2 h2).2 a q1)
      · obtain ⟨q1, q2⟩ := hl a ha' ha
        obtain ⟨q3, q4⟩ := hl b hb' hb
        rw [q2] at h1; rw [q4] at h2
        exact R.dis a b B q1 q3 h1 h2
  · by_cases h : m = n
    · subst h
      have hm2 : isLive o = true := by change isLive (upd s.h m o m) = true at hm; rw [upd_same] at hm; exact hm
      rw [upd_same] at h1
      exact (hB B hm2 h1).1
    · obtain ⟨q1, q2⟩ := hl m h hm
      rw [q2] at h1
      exact R.apt m B q1 h1

theorem Rel.stables (R : Rel E s N tm w ι St) (Q : Nat → Prop) (hsz : ∀ B, Q B → B < w.heap.size) (hf : ∀ m B, isLive (s.h m) = true → blkO (ι m) = some B → ¬ Q B) : Rel E s N tm w ι (fun g b => St g b ∨ Q b) := by
  have e : Ext w St ι w (fun g b => St g b ∨ Q b) ι := ⟨fun _ _ h => .inl h, fun _ _ h => h, fun _ _ => rfl, Nat.le_refl _⟩
  refine ⟨R.tsz, fun d => (R.tmp d).ext e, fun n => (R.obj n).ext e (fun _ h => h) (fun _ _ _ => rfl), R.dis, fun B hB => ?_, fun n B h1 h2 hB => ?_, R.sup.ext e fun B h => h.imp (R.sup.up B) id⟩
  · obtain ⟨g, h | h⟩ := hB
    · exact R.stb B ⟨g, h⟩
    · exact hsz B h
  · obtain ⟨g, h | h⟩ := hB
    · exact R.apt n B h1 h2 ⟨g, h⟩
    · exact hf n B h1 h2 h
theorem Rel.stable (R : Rel E s N tm w ι St) (B0 : Nat) (hsz : B0 < w.heap.size) (hf : ∀ m, isLive (s.h m) = true → blkO (ι m) ≠ some B0) : Rel E s N tm w ι (fun g b => St g b ∨ b = B0) :=
  R.stables (· = B0) (fun B h => h ▸ hsz) (fun m B h1 h2 h => hf m h1 (h ▸ h2))
end
end Go.V
