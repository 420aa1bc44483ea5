/- V: blocks that have no names. -/
import Derived.Test.YtnpdhpbhkdejoaaDoorVRet
import Derived.RangeFuncRecord
set_option linter.unusedVariables false
set_option linter.unusedSimpArgs false
namespace Go.V
variable {U : Nat → Type}
section
variable {E : Env U} {w : World} {St : Bool → Nat → Prop} {ι : Nat → Option Value} {s : S U} {N : Nat} {tm : Array Value} {w0 : World} {St0 : Bool → Nat → Prop} {O0 : Nat → Prop} {nb : Nat} {ιi : Nat → Option Value} {H : List (Nat × Obj)}

/-- what a hidden block holds is exchanged -/
theorem Inv.putH {r : Nat} {o o' : Obj} (I : Inv E N w0 St0 O0 (nb, ιi, (r, o) :: H) s tm w ι St) : Inv E N w0 St0 O0 (nb, ιi, (r, o') :: H) s tm (w.putObj r o') ι St := by
  obtain ⟨h1, h2, h3, h4⟩ := I.hid (r, o) (by simp)
  simp only [] at h1 h2 h3 h4
  have hlt := (Array.getElem?_eq_some_iff.1 h1).1
  have other : ∀ B, B ≠ r → (w.putObj r o').heap[B]? = w.heap[B]? := fun B h => World.putObj_heap_other h
  have hn := I.hnd
  simp only [List.map_cons, List.nodup_cons] at hn
  refine ⟨I.rel.world (by simp) (fun B hB => other B fun e => h3 (e ▸ hB)) (fun n B h5 h6 => other B fun e => h2 (e ▸ ⟨n, h5, h6⟩)), ⟨by simpa using I.fr.size, fun B hB ho => ?_, I.fr.out, I.fr.os, I.fr.tape⟩, I.own, I.gr, I.old, I.nbx, I.nbe, fun x hx => ?_, I.hnd⟩
  · rw [other B (fun e => by subst e; rcases h4 with h | h; exact ho h; omega)]
    exact I.fr.same B hB ho
  · rcases List.mem_cons.1 hx with rfl | hx
    · exact ⟨World.putObj_heap_same hlt, h2, h3, h4⟩
    · obtain ⟨g1, g2⟩ := I.hid x (List.mem_cons_of_mem _ hx)
      refine ⟨?_, g2⟩
      rw [other x.1 (fun e => hn.1 (e ▸ List.mem_map_of_mem hx))]
      exact g1
theorem Inv.dropH {x : Nat × Obj} (I : Inv E N w0 St0 O0 (nb, ιi, x :: H) s tm w ι St) : Inv E N w0 St0 O0 (nb, ιi, H) s tm w ι St :=
  ⟨I.rel, I.fr, I.own, I.gr, I.old, I.nbx, I.nbe, fun y hy => I.hid y (List.mem_cons_of_mem _ hy), (List.nodup_cons.1 I.hnd).2⟩

/-- a new hidden block -/
theorem Inv.newH (o : Obj) (I : Inv E N w0 St0 O0 (nb, ιi, H) s tm w ι St) : Inv E N w0 St0 O0 (nb, ιi, (w.heap.size, o) :: H) s tm (w.alloc o) ι St := by
  have hlt : ∀ B, B < w.heap.size → (w.alloc o).heap[B]? = w.heap[B]? := fun B h => by
    simp only [World.alloc, Array.getElem?_push]; rw [if_neg (by omega)]
  have hh : ∀ x ∈ H, x.1 < w.heap.size := fun x hx => (Array.getElem?_eq_some_iff.1 (I.hid x hx).1).1
  refine ⟨I.rel.world (by simp) (fun B hB => hlt B (I.rel.stb B hB)) (fun n B h5 h6 => hlt B (I.rel.lt n B h5 h6)), I.fr.trans (Fr.alloc _ _ _), I.own, I.gr, I.old, I.nbx, I.nbe, fun x hx => ?_, ?_⟩
  · rcases List.mem_cons.1 hx with rfl | hx
    · refine ⟨World.alloc_heap_new _ _, fun ⟨n, h1, h2⟩ => ?_, fun h => ?_, .inr I.fr.size⟩
      · have := I.rel.lt n _ h1 h2; simp at this
      · have := I.rel.stb _ h; simp at this
    · obtain ⟨g1, g2⟩ := I.hid x hx
      exact ⟨(hlt x.1 (hh x hx)).trans g1, g2⟩
  · simp only [List.map_cons, List.nodup_cons]
    refine ⟨fun h => ?_, I.hnd⟩
    obtain ⟨x, hx, e⟩ := List.mem_map.1 h
    have := hh x hx
    omega

/-- a hidden block gets a name -/
theorem Inv.nameH {l : Nat} {L : Loop} {f id : Nat} {live : List Nat} {vals : List (A U)} (I : Inv E N w0 St0 O0 (nb, ιi, (l, .loop L) :: H) s tm w ι St) (hf : ∀ m, s.nx ≤ m → ι m = none) (hw : w0.heap.size ≤ l)
    (hL : LoopIs E f id live L) (hv : RVs E w St ι vals (live.map fun d => L.tmps.getD d undef)) (hJ : JumpIs 0 L) :
    Inv E N w0 St0 O0 (nb, ιi, H) { s with h := upd s.h s.nx (.lp f id live vals 0), nx := s.nx + 1 } tm w (upd ι s.nx (some (.func (.yield l) #[] #[]))) St ∧
      (∀ m, s.nx + 1 ≤ m → upd ι s.nx (some (.func (.yield l) #[] #[])) m = none) := by
  obtain ⟨h1, h2, h3, h4⟩ := I.hid (l, .loop L) (by simp)
  simp only [] at h1 h2 h3 h4
  have hb := hf s.nx (Nat.le_refl _)
  have hx : ∀ m u, ι m = some u → upd ι s.nx (some (.func (.yield l) #[] #[])) m = some u := fun m u h => by
    rw [upd_ne _ _ (fun e => by subst e; rw [hb] at h; cases h)]; exact h
  have e : Ext w St ι w St (upd ι s.nx (some (.func (.yield l) #[] #[]))) := ⟨fun _ _ h => h, hx, fun _ _ => rfl, Nat.le_refl _⟩
  have R := I.rel.adopt s.nx (.lp f id live vals 0) (.func (.yield l) #[] #[]) (I.rel.dead hb) (.inl hb) ⟨l, L, rfl, h1, hL, hv.ext e, hJ⟩ (fun B hl hB => by
    simp only [blk, base, Option.map_some, Option.some.injEq] at hB
    subst hB
    exact ⟨h3, fun m h5 h6 => h2 ⟨m, h5, h6⟩⟩)
  have own : ∀ B, Own { s with h := upd s.h s.nx (.lp f id live vals 0), nx := s.nx + 1 } (upd ι s.nx (some (.func (.yield l) #[] #[]))) B → B = l ∨ Own s ι B := by
    rintro B ⟨m, l1, b1⟩
    change isLive (upd s.h s.nx _ m) = true at l1
    by_cases e : m = s.nx
    · subst e; rw [upd_same] at b1; exact .inl (by simpa [blkO, blk, base] using b1.symm)
    · rw [upd_ne _ _ e] at l1 b1; exact .inr ⟨m, l1, b1⟩
  have hn := I.hnd
  simp only [List.map_cons, List.nodup_cons] at hn
  refine ⟨⟨⟨R.tsz, R.tmp, R.obj, R.dis, R.stb, R.apt, R.sup⟩, I.fr, fun B hB => ?_, I.gr, fun n hn => ?_, Nat.le_succ_of_le I.nbx, I.nbe, fun x hx => ?_, hn.2⟩, fun m hm => ?_⟩
  · rcases own B hB with rfl | h
    · exact .inr hw
    · exact I.own B h
  · have := I.nbx
    rw [← I.old n hn]
    exact upd_ne _ _ (by have : n < s.nb := hn; omega)
  · obtain ⟨g1, g2, g3⟩ := I.hid x (List.mem_cons_of_mem _ hx)
    refine ⟨g1, fun h => ?_, g3⟩
    rcases own x.1 h with e | h
    · exact hn.1 (e ▸ List.mem_map_of_mem hx)
    · exact g2 h
  · rw [upd_ne _ _ (by omega)]; exact hf m (by omega)

/-- a loop's record is done with -/
theorem Inv.dropL {n l : Nat} (I : Inv E N w0 St0 O0 (nb, ιi, H) s tm w ι St) (o' : Obj) (hl : isLive (s.h n) = true) (hB : blkO (ι n) = some l) (k : Nat) (hk : s.nx ≤ k) :
    Inv E N w0 St0 O0 (nb, ιi, H) { s with h := upd s.h n .dead, nx := k } tm (w.putObj l o') ι St := by
  have hown : Own s ι l := ⟨n, hl, hB⟩
  have other : ∀ B, B ≠ l → (w.putObj l o').heap[B]? = w.heap[B]? := fun B h => World.putObj_heap_other h
  have sub : ∀ B, Own { s with h := upd s.h n .dead, nx := k } ι B → Own s ι B := by
    rintro B ⟨m, l1, b1⟩
    change isLive (upd s.h n .dead m) = true at l1
    by_cases e : m = n
    · subst e; rw [upd_same] at l1; simp [isLive] at l1
    · rw [upd_ne _ _ e] at l1; exact ⟨m, l1, b1⟩
  have R := (I.rel.kill n).world (w' := w.putObj l o') (by simp) (fun B hB' => other B fun e => I.rel.apt n l hl hB (e ▸ hB')) (fun m B l1 b1 => other B fun e => by
    subst e
    change isLive (upd s.h n .dead m) = true at l1
    by_cases e : m = n
    · subst e; rw [upd_same] at l1; simp [isLive] at l1
    · rw [upd_ne _ _ e] at l1; exact e (I.rel.dis m n B l1 hl b1 hB))
  refine ⟨⟨R.tsz, R.tmp, R.obj, R.dis, R.stb, R.apt, R.sup⟩, ⟨by simpa using I.fr.size, fun B h1 h2 => ?_, I.fr.out, I.fr.os, I.fr.tape⟩, fun B h => I.own B (sub B h), I.gr, I.old, Nat.le_trans I.nbx hk, I.nbe, fun x hx => ?_, I.hnd⟩
  · rw [other B fun e => by subst e; rcases I.own B hown with h | h; exact h2 h; omega]
    exact I.fr.same B h1 h2
  · obtain ⟨g1, g2, g3⟩ := I.hid x hx
    refine ⟨?_, fun h => g2 (sub _ h), g3⟩
    rw [other x.1 fun e => g2 (e ▸ hown)]
    exact g1

/-- a round (the record 'L', in block l), or none -/
abbrev Rnd := Option (Nat × Loop)
def markOf (x : Nat × Obj) : Deferred := { target := .collected x.1, args := #[] }
/-- a frame on its way: in a round, its record is the one hidden block; in none, the hidden blocks are those that its deferred calls name -/
def FrOk (rnd : Rnd) (H : List (Nat × Obj)) (b : Frame) (a : Act) (hb : Bool) : Prop := match rnd with
  | none => b.roundOf = none ∧ a.defers = H.map markOf ∧ ∀ x ∈ H, x.2 = .deferred (some [])
  | some (l, L) => b.roundOf = some l ∧ a.defers = [] ∧ H = [(l, .loop { L with state := if hb then .ready else .busy })]

theorem FrOk.defers {rnd : Rnd} {b : Frame} {a a' : Act} {hb : Bool} (h : FrOk rnd H b a hb) (e : a'.defers = a.defers) : FrOk rnd H b a' hb := by
  unfold FrOk at *
  cases rnd with
  | none => exact ⟨h.1, e.trans h.2.1, h.2.2⟩
  | some x => exact ⟨h.1, e.trans h.2.1, h.2.2⟩
theorem FrOk.round {rnd : Rnd} {b : Frame} {a : Act} {hb : Bool} (h : FrOk rnd H b a hb) : b.roundOf = rnd.map (·.1) := by
  unfold FrOk at h
  cases rnd with
  | none => exact h.1
  | some x => exact h.1

/-- the marks among a frame's deferred calls are come to -/
theorem leave_marks {P : Program} (todo : List Item) : ∀ (H : List (Nat × Obj)) (w : World) (fr : Frame), Inv E N w0 St0 O0 (nb, ιi, H) s tm w ι St → (∀ x ∈ H, x.2 = .deferred (some [])) → fr.mode = .returning → fr.defers = H.map markOf →
    ∃ w', Inv E N w0 St0 O0 (nb, ιi, []) s tm w' ι St ∧ ∀ cs, Steps P (lone fr cs w) (lone { fr with defers := [] } cs w')
  | [], w, fr, I, hd, hm, hf => ⟨w, I, fun cs => by
      have : { fr with defers := [] } = fr := by
        have : fr.defers = [] := hf
        rw [← this]
      rw [this]
      exact Steps.refl _ _⟩
  | (r, o) :: H, w, fr, I, hd, hm, hf => by
    have ho : o = .deferred (some []) := hd (r, o) (by simp)
    subst ho
    have h1 := (I.hid (r, .deferred (some [])) (by simp)).1
    simp only [] at h1
    have hs := fun cs => step_collected (P := P) (fr := fr) (cs := cs) (w := w) (by rw [hm]; simp) hf rfl (run_takeDeferred (P := P) h1)
    obtain ⟨w', I', hst⟩ := leave_marks (P := P) todo H _ { fr with defers := [] ++ H.map markOf } (I.putH (o' := .deferred none)).dropH (fun x hx => hd x (List.mem_cons_of_mem _ hx)) hm (by simp)
    exact ⟨w', I', fun cs => Steps.head (hs cs) (hst cs)⟩
end
end Go.V
