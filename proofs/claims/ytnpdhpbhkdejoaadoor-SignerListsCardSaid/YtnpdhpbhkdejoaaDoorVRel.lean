/- V, third part: what an abstract value says of memory; the first laws. -/
import Derived.Test.YtnpdhpbhkdejoaaDoorVRun
import Derived.Deep.MidRow
import Derived.Deep.AppendSrc
import Derived.Great.BuildSlice
set_option linter.unusedVariables false
namespace Go.V
variable {U : Nat → Type}

def isAggV : Value → Bool
  | .agg _ => true
  | _ => false
/-- how far a way leads into a value's cells -/
def po : List Step → Nat
  | [] => 0
  | .fld _ off :: p => off + po p
  | .idx i e _ :: p => i * e + po p
  | .elt i e :: p => i * e + po p
theorem po_append (p q : List Step) : po (p ++ q) = po p + po q := by
  induction p with
  | nil => simp [po]
  | cons s p ih => cases s <;> simp [po, ih] <;> omega

/-- the block and the place where a name's memory begins -/
def base : Value → Option (Nat × Nat)
  | .pointer (some ⟨b, o, .none⟩) => some (b, o)
  | .slice (some ⟨b, o, .none⟩) _ (_ + 1) => some (b, o)
  | .func (.yield r) _ _ => some (r, 0)
  | _ => .none
def blk (v : Value) : Option Nat := (base v).map (·.1)
def lenV' : Value → Nat
  | .slice _ n _ => n
  | _ => 0
/-- a way that stays inside -/
def vp (L : Nat) : List Step → Prop
  | [] => True
  | .fld _ _ :: p => vp L p
  | .idx i _ n :: p => i < n ∧ vp L p
  | .elt i _ :: p => i < L ∧ vp L p
theorem vp_append (L : Nat) (p q : List Step) : vp L (p ++ q) ↔ vp L p ∧ vp L q := by
  induction p with
  | nil => simp [vp]
  | cons s p ih => cases s <;> simp [vp, ih, and_assoc]

/-- a block that stays as it is, for good or for as long as it is lent -/
def An (St : Bool → Nat → Prop) (B : Nat) : Prop := ∃ g, St g B

/-- values, one behind the other, and their cells in a world; 'St': the blocks that stay as they are; 'ι': the names; the last: the blocks that the values have for themselves -/
inductive RC (E : Env U) (w : World) (St : Bool → Nat → Prop) (ι : Nat → Option Value) : List (A U) → List Value → List Nat → Prop
  | nil : RC E w St ι [] [] []
  | int {k n l cs bs} : RC E w St ι l cs bs → RC E w St ι (.int k n :: l) (.int k n :: cs) bs
  | bool {b l cs bs} : RC E w St ι l cs bs → RC E w St ι (.bool b :: l) (.bool b :: cs) bs
  | str {s l cs bs} : RC E w St ι l cs bs → RC E w St ι (.str s :: l) (.string s :: cs) bs
  | nilp {l cs bs} : RC E w St ι l cs bs → RC E w St ι (.nilp :: l) (.pointer .none :: cs) bs
  | nilf {l cs bs} : RC E w St ι l cs bs → RC E w St ι (.nilf :: l) (.nilFunc :: cs) bs
  | agg {m ds bs' l cs bs} : RC E w St ι m ds bs' → RC E w St ι l cs bs → RC E w St ι (.agg m :: l) (ds ++ cs) (bs' ++ bs)
  | arr {c n xs ds l cs bs} : xs.length = n → RC E w St ι (xs.map (E.enc c)) ds [] → RC E w St ι l cs bs → RC E w St ι (.arr c n xs :: l) (ds ++ cs) bs
  | nils {c l cs bs} : RC E w St ι l cs bs → RC E w St ι (.nils c :: l) (.slice .none 0 0 :: cs) bs
  | roE {b c a cap l cs bs} : RC E w St ι l cs bs → RC E w St ι (.ro b c [] :: l) (.slice a 0 cap :: cs) bs
  | ro {b c xs ds B off cap l cs bs} : RC E w St ι (xs.map (E.enc c)) ds [] → w.rangeAt B off ds → St b B → xs.length ≤ cap →
      RC E w St ι l cs bs → RC E w St ι (.ro b c xs :: l) (.slice (some ⟨B, off, .none⟩) xs.length cap :: cs) bs
  | clipE {b c a l cs bs} : RC E w St ι l cs bs → RC E w St ι (.clip b c [] :: l) (.slice a 0 0 :: cs) bs
  | clip {b c xs ds B off l cs bs} : RC E w St ι (xs.map (E.enc c)) ds [] → w.rangeAt B off ds → St b B →
      RC E w St ι l cs bs → RC E w St ι (.clip b c xs :: l) (.slice (some ⟨B, off, .none⟩) xs.length xs.length :: cs) bs
  | uslE {c a l cs bs} : RC E w St ι l cs bs → RC E w St ι (.usl c [] :: l) (.slice a 0 0 :: cs) bs
  | usl {c xs ds B off cap l cs bs} : RC E w St ι (xs.map (E.enc c)) ds [] → w.rangeAt B off ds → w.there B off (cap * E.sz c) → xs.length ≤ cap → B < w.heap.size →
      RC E w St ι l cs bs → RC E w St ι (.usl c xs :: l) (.slice (some ⟨B, off, .none⟩) xs.length cap :: cs) (B :: bs)
  | own {n a L C l cs bs} : ι n = some (.slice a L C) → RC E w St ι l cs bs → RC E w St ι (.own n :: l) (.slice a L C :: cs) bs
  | sub {n c i len a a' L C cap l cs bs} : ι n = some (.slice a L C) → i + len ≤ L → len ≤ cap → i + cap ≤ C → (cap = 0 ∨ a' = a.map (·.add (i * E.sz c))) →
      RC E w St ι l cs bs → RC E w St ι (.sub n c i len :: l) (.slice a' len cap :: cs) bs
  | bsl {n p c N i len B a' cap l cs bs} : ι n = some (.pointer (some ⟨B, 0, .none⟩)) → i + len ≤ N → len ≤ cap → i + cap ≤ N → (cap = 0 ∨ a' = some ⟨B, po p + i * E.sz c, .none⟩) → vp 0 p →
      RC E w St ι l cs bs → RC E w St ι (.bsl n p c N i len :: l) (.slice a' len cap :: cs) bs
  | ptr {n p v B off l cs bs} : ι n = some v → base v = some (B, off) → vp (lenV' v) p → RC E w St ι l cs bs → RC E w St ι (.ptr n p :: l) (.pointer (some ⟨B, off + po p, .none⟩) :: cs) bs
  | yld {n r l cs bs} : ι n = some (.func (.yield r) #[] #[]) → RC E w St ι l cs bs → RC E w St ι (.yld n :: l) (.func (.yield r) #[] #[] :: cs) bs
  | rp {b c xs i p ds B off l cs bs} : RC E w St ι (xs.map (E.enc c)) ds [] → w.rangeAt B off ds → St b B → i < xs.length → vp 0 p →
      RC E w St ι l cs bs → RC E w St ι (.rp b c xs i p :: l) (.pointer (some ⟨B, off + (i * E.sz c + po p), .none⟩) :: cs) bs
  | clo {f caps l bs} {vs : Array Value} {cs : List Value} : RC E w St ι caps ((vs.toList.map (·.cells.toList)).flatten) [] →
      vs.toList.map (fun v => (v.cells.size, isAggV v)) = caps.map (fun a => (size E.sz a, isAgg a)) →
      RC E w St ι l cs bs → RC E w St ι (.clo f caps :: l) (.func (.func f) #[] vs :: cs) bs

mutual
/-- a value without names, that nobody has lent -/
def closed : A U → Bool
  | .int .. | .bool _ | .str _ | .nilp | .nilf | .arr .. | .nils _ => true
  | .agg l | .clo _ l => closeds l
  | .ro b .. | .clip b .. | .rp b .. => !b
  | _ => false
def closeds : List (A U) → Bool
  | [] => true
  | a :: l => closed a && closeds l
end

/-- what is asked of the tables -/
structure EnvOk (E : Env U) : Prop where
  clo : ∀ c x, closed (E.enc c x) = true
  encSize : ∀ c x, size E.sz (E.enc c x) = E.sz c
  decEnc : ∀ c a x, E.dec c a = some x → E.enc c x = a

section
variable {E : Env U} {w : World} {St : Bool → Nat → Prop} {ι : Nat → Option Value}

theorem sizes_append (sz : Nat → Nat) (l m : List (A U)) : sizes sz (l ++ m) = sizes sz l + sizes sz m := by
  induction l with
  | nil => simp [sizes]
  | cons a l ih => simp [sizes, ih]; omega

theorem sizes_enc (ok : EnvOk E) (c : Nat) (xs : List (U c)) : sizes E.sz (xs.map (E.enc c)) = xs.length * E.sz c := by
  induction xs with
  | nil => simp [sizes]
  | cons x xs ih => simp [sizes, ih, ok.encSize, Nat.add_mul]; omega

theorem RC.length (ok : EnvOk E) {l : List (A U)} {cs : List Value} {bs : List Nat} (h : RC E w St ι l cs bs) : cs.length = sizes E.sz l := by
  induction h with
  | nil => rfl
  | agg _ _ ih1 ih2 => simp only [List.length_append, sizes, size, ih1, ih2]
  | arr hn _ _ ih1 ih2 => simp only [List.length_append, sizes, size, ih1, ih2, sizes_enc ok, hn]
  | _ => simp only [List.length_cons, sizes, size, *]; omega

theorem RC.append {l m : List (A U)} {cs ds : List Value} {bs bs' : List Nat} (h : RC E w St ι l cs bs) (h' : RC E w St ι m ds bs') : RC E w St ι (l ++ m) (cs ++ ds) (bs ++ bs') := by
  induction h with
  | nil => exact h'
  | agg h1 _ _ ih2 => simp only [List.cons_append, List.append_assoc]; exact .agg h1 ih2
  | arr hn h1 _ _ ih2 => simp only [List.cons_append, List.append_assoc]; exact .arr hn h1 ih2
  | int _ ih => exact .int ih
  | bool _ ih => exact .bool ih
  | str _ ih => exact .str ih
  | nilp _ ih => exact .nilp ih
  | nilf _ ih => exact .nilf ih
  | nils _ ih => exact .nils ih
  | roE _ ih => exact .roE ih
  | ro h1 h2 h3 h4 _ _ ih => exact .ro h1 h2 h3 h4 ih
  | clipE _ ih => exact .clipE ih
  | clip h1 h2 h3 _ _ ih => exact .clip h1 h2 h3 ih
  | uslE _ ih => exact .uslE ih
  | usl h1 h2 h3 h4 h5 _ _ ih => exact .usl h1 h2 h3 h4 h5 ih
  | own h1 _ ih => exact .own h1 ih
  | sub h1 h2 h3 h4 h5 _ ih => exact .sub h1 h2 h3 h4 h5 ih
  | bsl h1 h2 h3 h4 h5 h6 _ ih => exact .bsl h1 h2 h3 h4 h5 h6 ih
  | ptr h1 h2 h3 _ ih => exact .ptr h1 h2 h3 ih
  | yld h1 _ ih => exact .yld h1 ih
  | rp h1 h2 h3 h4 h5 _ _ ih => exact .rp h1 h2 h3 h4 h5 ih
  | clo h1 h2 _ _ ih => exact .clo h1 h2 ih

theorem RC.cons_inv {a : A U} {l : List (A U)} {cs : List Value} {bs : List Nat} (h : RC E w St ι (a :: l) cs bs) :
    ∃ c1 c2 b1 b2, cs = c1 ++ c2 ∧ bs = b1 ++ b2 ∧ RC E w St ι [a] c1 b1 ∧ RC E w St ι l c2 b2 := by
  cases h with
  | agg h1 h2 => exact ⟨_, _, _, _, rfl, rfl, by simpa using RC.agg h1 .nil, h2⟩
  | arr hn h1 h2 => exact ⟨_, _, [], _, rfl, rfl, by simpa using RC.arr hn h1 .nil, h2⟩
  | int h => exact ⟨[_], _, [], _, rfl, rfl, .int .nil, h⟩
  | bool h => exact ⟨[_], _, [], _, rfl, rfl, .bool .nil, h⟩
  | str h => exact ⟨[_], _, [], _, rfl, rfl, .str .nil, h⟩
  | nilp h => exact ⟨[_], _, [], _, rfl, rfl, .nilp .nil, h⟩
  | nilf h => exact ⟨[_], _, [], _, rfl, rfl, .nilf .nil, h⟩
  | nils h => exact ⟨[_], _, [], _, rfl, rfl, .nils .nil, h⟩
  | roE h => exact ⟨[_], _, [], _, rfl, rfl, .roE .nil, h⟩
  | ro h1 h2 h3 h4 h => exact ⟨[_], _, [], _, rfl, rfl, .ro h1 h2 h3 h4 .nil, h⟩
  | clipE h => exact ⟨[_], _, [], _, rfl, rfl, .clipE .nil, h⟩
  | clip h1 h2 h3 h => exact ⟨[_], _, [], _, rfl, rfl, .clip h1 h2 h3 .nil, h⟩
  | uslE h => exact ⟨[_], _, [], _, rfl, rfl, .uslE .nil, h⟩
  | usl h1 h2 h3 h4 h5 h => exact ⟨[_], _, [_], _, rfl, rfl, .usl h1 h2 h3 h4 h5 .nil, h⟩
  | own h1 h => exact ⟨[_], _, [], _, rfl, rfl, .own h1 .nil, h⟩
  | sub h1 h2 h3 h4 h5 h => exact ⟨[_], _, [], _, rfl, rfl, .sub h1 h2 h3 h4 h5 .nil, h⟩
  | bsl h1 h2 h3 h4 h5 h6 h => exact ⟨[_], _, [], _, rfl, rfl, .bsl h1 h2 h3 h4 h5 h6 .nil, h⟩
  | ptr h1 h2 h3 h => exact ⟨[_], _, [], _, rfl, rfl, .ptr h1 h2 h3 .nil, h⟩
  | yld h1 h => exact ⟨[_], _, [], _, rfl, rfl, .yld h1 .nil, h⟩
  | rp h1 h2 h3 h4 h5 h => exact ⟨[_], _, [], _, rfl, rfl, .rp h1 h2 h3 h4 h5 .nil, h⟩
  | clo h1 h2 h => exact ⟨[_], _, [], _, rfl, rfl, .clo h1 h2 .nil, h⟩

theorem RC.split {l m : List (A U)} : ∀ {cs : List Value} {bs : List Nat}, RC E w St ι (l ++ m) cs bs →
    ∃ c1 c2 b1 b2, cs = c1 ++ c2 ∧ bs = b1 ++ b2 ∧ RC E w St ι l c1 b1 ∧ RC E w St ι m c2 b2 := by
  induction l with
  | nil => intro cs bs h; exact ⟨[], cs, [], bs, rfl, rfl, .nil, h⟩
  | cons a l ih =>
    intro cs bs h
    obtain ⟨c1, c2, b1, b2, rfl, rfl, h1, h2⟩ := RC.cons_inv h
    obtain ⟨d1, d2, e1, e2, rfl, rfl, h3, h4⟩ := ih h2
    exact ⟨c1 ++ d1, d2, b1 ++ e1, e2, by simp, by simp, by simpa using RC.append h1 h3, h4⟩

theorem RC.cons {a : A U} {l : List (A U)} {c1 c2 : List Value} {b1 b2 : List Nat} (h1 : RC E w St ι [a] c1 b1) (h2 : RC E w St ι l c2 b2) : RC E w St ι (a :: l) (c1 ++ c2) (b1 ++ b2) := by
  simpa using RC.append h1 h2

/-- what does not change a value: more names, more blocks that stay; the blocks that it looks at as they were -/
theorem RC.mono {w' : World} {St' : Bool → Nat → Prop} {ι' : Nat → Option Value} {l : List (A U)} {cs : List Value} {bs : List Nat} (h : RC E w St ι l cs bs)
    (hS : ∀ g b, St g b → St' g b) (hι : ∀ n v, ι n = some v → ι' n = some v) (hw : ∀ b, An St b ∨ b ∈ bs → w'.heap[b]? = w.heap[b]?) (hsz : w.heap.size ≤ w'.heap.size) : RC E w' St' ι' l cs bs := by
  have hr : ∀ b off ds, An St b ∨ b ∈ bs → w.rangeAt b off ds → w'.rangeAt b off ds := by
    intro b off ds hb hr j v hj
    have := hr j v hj
    simp only [World.cell?] at this ⊢
    rw [hw b hb]; exact this
  have ht : ∀ b off n, An St b ∨ b ∈ bs → w.there b off n → w'.there b off n := by
    intro b off n hb hr j hj
    have := hr j hj
    simp only [World.cell?, World.frozen?] at this ⊢
    rw [hw b hb]; exact this
  induction h with
  | nil => exact .nil
  | agg h1 h2 ih1 ih2 =>
    refine .agg (ih1 (fun b hb => hw b (hb.imp id fun h => List.mem_append_left _ h)) (fun b o d hb => hr b o d (hb.imp id fun h => List.mem_append_left _ h)) (fun b o d hb => ht b o d (hb.imp id fun h => List.mem_append_left _ h)))
      (ih2 (fun b hb => hw b (hb.imp id fun h => List.mem_append_right _ h)) (fun b o d hb => hr b o d (hb.imp id fun h => List.mem_append_right _ h)) (fun b o d hb => ht b o d (hb.imp id fun h => List.mem_append_right _ h)))
  | arr hn h1 h2 ih1 ih2 =>
    exact .arr hn (ih1 (fun b hb => hw b (hb.imp id fun h => absurd h (by simp))) (fun b o d hb => hr b o d (hb.imp id fun h => absurd h (by simp))) (fun b o d hb => ht b o d (hb.imp id fun h => absurd h (by simp)))) (ih2 hw hr ht)
  | int _ ih => exact .int (ih hw hr ht)
  | bool _ ih => exact .bool (ih hw hr ht)
  | str _ ih => exact .str (ih hw hr ht)
  | nilp _ ih => exact .nilp (ih hw hr ht)
  | nilf _ ih => exact .nilf (ih hw hr ht)
  | nils _ ih => exact .nils (ih hw hr ht)
  | roE _ ih => exact .roE (ih hw hr ht)
  | ro h1 h2 h3 h4 _ ih1 ih => exact .ro (ih1 (fun b hb => hw b (hb.imp id fun h => absurd h (by simp))) (fun b o d hb => hr b o d (hb.imp id fun h => absurd h (by simp))) (fun b o d hb => ht b o d (hb.imp id fun h => absurd h (by simp)))) (hr _ _ _ (.inl ⟨_, h3⟩) h2) (hS _ _ h3) h4 (ih hw hr ht)
  | clipE _ ih => exact .clipE (ih hw hr ht)
  | clip h1 h2 h3 _ ih1 ih => exact .clip (ih1 (fun b hb => hw b (hb.imp id fun h => absurd h (by simp))) (fun b o d hb => hr b o d (hb.imp id fun h => absurd h (by simp))) (fun b o d hb => ht b o d (hb.imp id fun h => absurd h (by simp)))) (hr _ _ _ (.inl ⟨_, h3⟩) h2) (hS _ _ h3) (ih hw hr ht)
  | uslE _ ih => exact .uslE (ih hw hr ht)
  | usl h1 h2 h3 h4 h5 _ ih1 ih =>
    exact .usl (ih1 (fun b hb => hw b (hb.imp id fun h => absurd h (by simp))) (fun b o d hb => hr b o d (hb.imp id fun h => absurd h (by simp))) (fun b o d hb => ht b o d (hb.imp id fun h => absurd h (by simp)))) (hr _ _ _ (.inr (by simp)) h2) (ht _ _ _ (.inr (by simp)) h3) h4 (by omega)
      (ih (fun b hb => hw b (hb.imp id fun h => List.mem_cons_of_mem _ h)) (fun b o d hb => hr b o d (hb.imp id fun h => List.mem_cons_of_mem _ h)) (fun b o d hb => ht b o d (hb.imp id fun h => List.mem_cons_of_mem _ h)))
  | own h1 _ ih => exact .own (hι _ _ h1) (ih hw hr ht)
  | sub h1 h2 h3 h4 h5 _ ih => exact .sub (hι _ _ h1) h2 h3 h4 h5 (ih hw hr ht)
  | bsl h1 h2 h3 h4 h5 h6 _ ih => exact .bsl (hι _ _ h1) h2 h3 h4 h5 h6 (ih hw hr ht)
  | ptr h1 h2 h3 _ ih => exact .ptr (hι _ _ h1) h2 h3 (ih hw hr ht)
  | yld h1 _ ih => exact .yld (hι _ _ h1) (ih hw hr ht)
  | rp h1 h2 h3 h4 h5 _ ih1 ih => exact .rp (ih1 (fun b hb => hw b (hb.imp id fun h => absurd h (by simp))) (fun b o d hb => hr b o d (hb.imp id fun h => absurd h (by simp))) (fun b o d hb => ht b o d (hb.imp id fun h => absurd h (by simp)))) (hr _ _ _ (.inl ⟨_, h3⟩) h2) (hS _ _ h3) h4 h5 (ih hw hr ht)
  | clo h1 h2 _ ih1 ih => exact .clo (ih1 (fun b hb => hw b (hb.imp id fun h => absurd h (by simp))) (fun b o d hb => hr b o d (hb.imp id fun h => absurd h (by simp))) (fun b o d hb => ht b o d (hb.imp id fun h => absurd h (by simp)))) h2 (ih hw hr ht)

/-- each cell holds one value -/
theorem RC.oneCell {l : List (A U)} {cs : List Value} {bs : List Nat} (h : RC E w St ι l cs bs) : ∀ v ∈ cs, v.oneCell' = true := by
  induction h with
  | nil => simp
  | agg _ _ ih1 ih2 => intro v hv; rcases List.mem_append.1 hv with h | h; exact ih1 v h; exact ih2 v h
  | arr _ _ _ ih1 ih2 => intro v hv; rcases List.mem_append.1 hv with h | h; exact ih1 v h; exact ih2 v h
  | ro _ _ _ _ _ _ ih => intro v hv; rcases List.mem_cons.1 hv with h | h; (subst h; rfl); exact ih v h
  | clip _ _ _ _ _ ih => intro v hv; rcases List.mem_cons.1 hv with h | h; (subst h; rfl); exact ih v h
  | usl _ _ _ _ _ _ _ ih => intro v hv; rcases List.mem_cons.1 hv with h | h; (subst h; rfl); exact ih v h
  | rp _ _ _ _ _ _ _ ih => intro v hv; rcases List.mem_cons.1 hv with h | h; (subst h; rfl); exact ih v h
  | clo _ _ _ _ ih => intro v hv; rcases List.mem_cons.1 hv with h | h; (subst h; rfl); exact ih v h
  | own _ _ ih => intro v hv; rcases List.mem_cons.1 hv with h | h; (subst h; rfl); exact ih v h
  | sub _ _ _ _ _ _ ih => intro v hv; rcases List.mem_cons.1 hv with h | h; (subst h; rfl); exact ih v h
  | bsl _ _ _ _ _ _ _ ih => intro v hv; rcases List.mem_cons.1 hv with h | h; (subst h; rfl); exact ih v h
  | ptr _ _ _ _ ih => intro v hv; rcases List.mem_cons.1 hv with h | h; (subst h; rfl); exact ih v h
  | yld _ _ ih => intro v hv; rcases List.mem_cons.1 hv with h | h; (subst h; rfl); exact ih v h
  | int _ ih | bool _ ih | str _ ih | nilp _ ih | nilf _ ih | nils _ ih | roE _ ih | clipE _ ih | uslE _ ih => intro v hv; rcases List.mem_cons.1 hv with h | h; (subst h; rfl); exact ih v h

theorem RC.elem (ok : EnvOk E) {c : Nat} {xs : List (U c)} {ds : List Value} (h : RC E w St ι (xs.map (E.enc c)) ds []) {i : Nat} (hi : i < xs.length) :
    RC E w St ι [E.enc c (xs.getD i (E.dflt c))] ((ds.drop (i * E.sz c)).take (E.sz c)) [] ∧ (i + 1) * E.sz c ≤ ds.length := by
  have hx : xs = xs.take i ++ xs[i] :: xs.drop (i + 1) := by simp
  have hg : xs.getD i (E.dflt c) = xs[i] := by simp [List.getD, hi]
  have h0 := h.length ok
  rw [sizes_enc ok] at h0
  rw [hx, List.map_append, List.map_cons] at h
  obtain ⟨c1, c2, b1, b2, rfl, hb, h1, h2⟩ := RC.split h
  obtain ⟨d1, d2, e1, e2, rfl, he, h3, h4⟩ := RC.cons_inv h2
  have hb1 : b1 = [] ∧ b2 = [] := by simpa using hb.symm
  obtain ⟨rfl, rfl⟩ := hb1
  have he1 : e1 = [] ∧ e2 = [] := by simpa using he.symm
  obtain ⟨rfl, rfl⟩ := he1
  have l1 := h1.length ok
  have l3 := h3.length ok
  rw [sizes_enc ok, List.length_take, Nat.min_eq_left (by omega)] at l1
  simp only [sizes, ok.encSize, Nat.add_zero] at l3
  rw [hg, List.drop_append, List.drop_of_length_le (by omega), ← l1, Nat.sub_self, List.drop_zero, List.nil_append, ← l3, List.take_append, Nat.sub_self, List.take_zero, List.append_nil, List.take_of_length_le (Nat.le_refl _)]
  refine ⟨h3, ?_⟩
  rw [Nat.add_mul, l3, ← l1]
  simp only [List.length_append, l3]
  omega

theorem nth_eq (l : List (A U)) (k : Nat) : nth l k = l.getD k .none := by
  induction l generalizing k with
  | nil => simp [nth]
  | cons a l ih => cases k <;> simp [nth, ih]

theorem nil_or {b1 b2 : List Nat} (h : [] = b1 ++ b2) : b1 = [] ∧ b2 = [] := by simpa using h.symm

/-- a part of a struct -/
theorem RC.part (ok : EnvOk E) {l : List (A U)} {ds : List Value} (h : RC E w St ι l ds []) {k : Nat} (hk : k < l.length) :
    RC E w St ι [nth l k] ((ds.drop (sizes E.sz (l.take k))).take (size E.sz (nth l k))) [] ∧ sizes E.sz (l.take k) + size E.sz (nth l k) ≤ ds.length := by
  have hx : l = l.take k ++ l[k] :: l.drop (k + 1) := by simp
  have hg : nth l k = l[k] := by simp [nth_eq, List.getD, hk]
  rw [hx] at h
  obtain ⟨c1, c2, b1, b2, rfl, hb, h1, h2⟩ := RC.split h
  obtain ⟨d1, d2, e1, e2, rfl, he, h3, h4⟩ := RC.cons_inv h2
  obtain ⟨rfl, rfl⟩ := nil_or hb
  obtain ⟨rfl, rfl⟩ := nil_or he
  have l1 := h1.length ok
  have l3 := h3.length ok
  simp only [sizes, Nat.add_zero] at l3
  rw [hg, ← l1, ← l3, List.drop_append, List.drop_of_length_le (Nat.le_refl _), Nat.sub_self, List.drop_zero, List.nil_append, List.take_append, Nat.sub_self, List.take_zero, List.append_nil, List.take_of_length_le (Nat.le_refl _)]
  exact ⟨h3, by simp only [List.length_append]; omega⟩

theorem known_nth {l : List (A U)} {k : Nat} (h : l.length ≤ k) : nth l k = .none := by simp [nth_eq, List.getD, h]

theorem getP_none (p : List Step) : getP E (.none : A U) p = .none := by
  cases p with
  | nil => rfl
  | cons s p => cases s <;> rfl

theorem RC.agg_inv {m : List (A U)} {cs : List Value} {bs : List Nat} (h : RC E w St ι [.agg m] cs bs) : RC E w St ι m cs bs := by
  cases h with
  | agg h1 h2 => cases h2; simpa using h1
theorem RC.arr_inv {c n : Nat} {xs : List (U c)} {cs : List Value} {bs : List Nat} (h : RC E w St ι [.arr c n xs] cs bs) : xs.length = n ∧ RC E w St ι (xs.map (E.enc c)) cs [] ∧ bs = [] := by
  cases h with
  | arr h0 h1 h2 => cases h2; exact ⟨h0, by simpa using h1, rfl⟩

/-- what lies at the end of a way -/
theorem RC.getP (ok : EnvOk E) : ∀ (p : List Step) {a : A U} {cs : List Value} {L : Nat}, RC E w St ι [a] cs [] → vp L p → known (getP E a p) = true →
    RC E w St ι [getP E a p] ((cs.drop (po p)).take (size E.sz (getP E a p))) [] ∧ po p + size E.sz (getP E a p) ≤ cs.length := by
  intro p
  induction p with
  | nil =>
    intro a cs L h _ _
    have hl := h.length ok
    simp only [sizes, Nat.add_zero] at hl
    simp only [V.getP, po, List.drop_zero, Nat.zero_add]
    rw [List.take_of_length_le (by omega)]
    exact ⟨h, by omega⟩
  | cons s p ih =>
    intro a cs L h hv hk
    cases a with
    | agg l =>
      cases s with
      | fld k off =>
        simp only [V.getP] at hk ⊢
        cases hb : Nat.beq (sizes E.sz (l.take k)) off with
        | false => rw [hb] at hk; simp [known] at hk
        | true =>
          rw [hb] at hk
          simp only [cond_true] at hk ⊢
          have ho := Nat.eq_of_beq_eq_true hb
          have h1 := h.agg_inv
          by_cases hkl : k < l.length
          · obtain ⟨q1, q2⟩ := RC.part ok h1 hkl
            obtain ⟨r1, r2⟩ := ih q1 hv hk
            have hlen := q1.length ok
            simp only [sizes, Nat.add_zero] at hlen
            rw [hlen] at r2
            simp only [po]
            rw [ho] at r1 q2
            rw [List.drop_take, List.drop_drop, List.take_take, Nat.min_eq_left (by omega)] at r1
            exact ⟨r1, by omega⟩
          · rw [known_nth (by omega), getP_none] at hk; simp [known] at hk
      | _ => simp [V.getP, known] at hk
    | arr c n l =>
      cases s with
      | idx i e m =>
        simp only [V.getP] at hk ⊢
        cases hb : (Nat.beq (E.sz c) e && Nat.beq n m) with
        | false => rw [hb] at hk; simp [known] at hk
        | true =>
          rw [hb] at hk
          simp only [cond_true] at hk ⊢
          simp only [Bool.and_eq_true] at hb
          have he := Nat.eq_of_beq_eq_true hb.1
          have hm := Nat.eq_of_beq_eq_true hb.2
          obtain ⟨hn, h1, -⟩ := h.arr_inv
          obtain ⟨q1, q2⟩ := RC.elem ok h1 (i := i) (by have := hv.1; omega)
          obtain ⟨r1, r2⟩ := ih q1 hv.2 hk
          have hlen := q1.length ok
          simp only [sizes, ok.encSize, Nat.add_zero] at hlen
          rw [hlen] at r2
          simp only [po]
          rw [List.drop_take, List.drop_drop, List.take_take, Nat.min_eq_left (by omega)] at r1
          rw [Nat.add_mul] at q2
          subst he
          exact ⟨r1, by omega⟩
      | _ => simp [V.getP, known] at hk
    | _ => cases s <;> simp [V.getP, known] at hk

theorem take_mid {α : Type} {c1 c2 c3 : List α} {n q : Nat} (h : c1.length = n) (hq : q ≤ c2.length) : (c1 ++ (c2 ++ c3)).take (n + q) = c1 ++ c2.take q := by
  subst h
  rw [List.take_append, List.take_of_length_le (by omega), Nat.add_sub_cancel_left, List.take_append_of_le_length hq]
theorem drop_mid {α : Type} {c1 c2 c3 : List α} {n q : Nat} (h : c1.length = n) (hq : q ≤ c2.length) : (c1 ++ (c2 ++ c3)).drop (n + q) = c2.drop q ++ c3 := by
  subst h
  rw [List.drop_append, List.drop_of_length_le (by omega), Nat.add_sub_cancel_left, List.nil_append, List.drop_append_of_le_length hq]

theorem RC.parts (ok : EnvOk E) {l : List (A U)} {ds : List Value} (h : RC E w St ι l ds []) {k : Nat} (hk : k < l.length) :
    ∃ c1 c2 c3, ds = c1 ++ (c2 ++ c3) ∧ RC E w St ι (l.take k) c1 [] ∧ RC E w St ι [nth l k] c2 [] ∧ RC E w St ι (l.drop (k + 1)) c3 [] ∧ c1.length = sizes E.sz (l.take k) := by
  have hx : l = l.take k ++ l[k] :: l.drop (k + 1) := by simp
  have hg : nth l k = l[k] := by simp [nth_eq, List.getD, hk]
  rw [hx] at h
  obtain ⟨c1, c2, b1, b2, rfl, hb, h1, h2⟩ := RC.split h
  obtain ⟨d1, d2, e1, e2, rfl, he, h3, h4⟩ := RC.cons_inv h2
  obtain ⟨rfl, rfl⟩ := nil_or hb
  obtain ⟨rfl, rfl⟩ := nil_or he
  exact ⟨c1, d1, d2, rfl, h1, hg ▸ h3, h4, h1.length ok⟩

theorem RC.elems (ok : EnvOk E) {c : Nat} {xs : List (U c)} {ds : List Value} (h : RC E w St ι (xs.map (E.enc c)) ds []) {i : Nat} (hi : i < xs.length) :
    ∃ c1 c2 c3, ds = c1 ++ (c2 ++ c3) ∧ RC E w St ι ((xs.take i).map (E.enc c)) c1 [] ∧ RC E w St ι [E.enc c (xs.getD i (E.dflt c))] c2 [] ∧ RC E w St ι ((xs.drop (i + 1)).map (E.enc c)) c3 [] ∧
      c1.length = i * E.sz c ∧ c2.length = E.sz c := by
  have hk : i < (xs.map (E.enc c)).length := by simpa using hi
  obtain ⟨c1, c2, c3, rfl, h1, h2, h3, h4⟩ := h.parts ok hk
  have hg : nth (xs.map (E.enc c)) i = E.enc c (xs.getD i (E.dflt c)) := by simp [nth_eq, List.getD, hi]
  rw [hg] at h2
  rw [← List.map_take] at h1 h4
  rw [← List.map_drop] at h3
  rw [sizes_enc ok, List.length_take, Nat.min_eq_left (by omega)] at h4
  have := h2.length ok
  simp only [sizes, ok.encSize, Nat.add_zero] at this
  exact ⟨c1, c2, c3, rfl, h1, h2, h3, h4, this⟩

theorem set_cut {α : Type} (l : List α) (k : Nat) (x : α) (h : k < l.length) : l.set k x = l.take k ++ x :: l.drop (k + 1) := by
  rw [List.set_eq_take_append_cons_drop, if_pos h]

/-- a part is exchanged -/
theorem RC.setP (ok : EnvOk E) : ∀ (p : List Step) {a a' v : A U} {cs ds : List Value} {L : Nat}, RC E w St ι [a] cs [] → vp L p → setP E a p v = some a' → RC E w St ι [v] ds [] →
    RC E w St ι [a'] (cs.take (po p) ++ (ds ++ cs.drop (po p + ds.length))) [] ∧ po p + ds.length ≤ cs.length ∧ size E.sz a' = size E.sz a ∧ isAgg a' = isAgg a ∧ known a' = true := by
  intro p
  induction p with
  | nil =>
    intro a a' v cs ds L h _ hs hv
    simp only [V.setP] at hs
    cases hb : (Nat.beq (size E.sz a) (size E.sz v) && (known v && (isAgg a == isAgg v))) with
    | false => rw [hb] at hs; simp at hs
    | true =>
      rw [hb] at hs
      simp only [cond_true, Option.some.injEq] at hs
      subst hs
      simp only [Bool.and_eq_true] at hb
      have h1 := Nat.eq_of_beq_eq_true hb.1
      have h2 := h.length ok
      have h3 := hv.length ok
      simp only [sizes, Nat.add_zero] at h2 h3
      simp only [po, List.take_zero, List.nil_append, Nat.zero_add]
      rw [List.drop_of_length_le (by omega), List.append_nil]
      exact ⟨hv, by omega, h1.symm, (beq_iff_eq.1 hb.2.2).symm, hb.2.1⟩
  | cons s p ih =>
    intro a a' v cs ds L h hp hs hv
    cases a with
    | agg l =>
      cases s with
      | fld k off =>
        simp only [V.setP] at hs
        cases hb : (Nat.beq (sizes E.sz (l.take k)) off && Nat.blt k l.length) with
        | false => rw [hb] at hs; simp at hs
        | true =>
          rw [hb] at hs
          simp only [cond_true] at hs
          simp only [Bool.and_eq_true] at hb
          have ho := Nat.eq_of_beq_eq_true hb.1
          have hk : k < l.length := Nat.le_of_ble_eq_true hb.2
          cases hx : V.setP E (nth l k) p v with
          | none => rw [hx] at hs; simp at hs
          | some x =>
            rw [hx] at hs
            simp only [Option.some.injEq] at hs
            subst hs
            obtain ⟨c1, c2, c3, rfl, h1, h2, h3, h4⟩ := h.agg_inv.parts ok hk
            obtain ⟨q1, q2, q3, q4, q5⟩ := ih h2 hp hx hv
            simp only [po]
            rw [← ho, Nat.add_assoc, take_mid h4 (by omega), drop_mid h4 q2]
            refine ⟨?_, by simp only [List.length_append]; omega, ?_, rfl, rfl⟩
            · rw [set_cut l k x hk]
              have := RC.append h1 (RC.cons q1 h3)
              simp only [List.append_nil, List.append_assoc] at this ⊢
              simpa using RC.agg this .nil
            · simp only [size]
              have hx : l = l.take k ++ nth l k :: l.drop (k + 1) := by rw [nth_eq, List.getD, List.getElem?_eq_getElem hk]; simp
              rw [set_cut l k x hk]
              conv => rhs; rw [hx]
              simp only [sizes_append, sizes, q3]
      | _ => simp [V.setP] at hs
    | arr c n l =>
      cases s with
      | idx i e m =>
        simp only [V.setP] at hs
        cases hb : (Nat.beq (E.sz c) e && Nat.beq n m) with
        | false => rw [hb] at hs; simp at hs
        | true =>
          rw [hb] at hs
          simp only [cond_true] at hs
          simp only [Bool.and_eq_true] at hb
          have he := Nat.eq_of_beq_eq_true hb.1
          have hm := Nat.eq_of_beq_eq_true hb.2
          cases hx : V.setP E (E.enc c (l.getD i (E.dflt c))) p v with
          | none => rw [hx] at hs; simp at hs
          | some x =>
            rw [hx] at hs
            cases hy : E.dec c x with
            | none => simp [hy] at hs
            | some y =>
              simp only [hy, Option.some.injEq] at hs
              subst hs
              obtain ⟨hn, h0, -⟩ := h.arr_inv
              have hi : i < l.length := by have := hp.1; omega
              obtain ⟨c1, c2, c3, rfl, h1, h2, h3, h4, h5⟩ := h0.elems ok hi
              obtain ⟨q1, q2, q3, q4, q5⟩ := ih h2 hp.2 hx hv
              simp only [po]
              subst he
              rw [Nat.add_assoc, take_mid h4 (by omega), drop_mid h4 q2]
              refine ⟨?_, by simp only [List.length_append]; omega, by simp [size], rfl, rfl⟩
              have hxy := ok.decEnc c x y hy
              rw [← hxy] at q1
              have := RC.append h1 (RC.cons q1 h3)
              simp only [List.append_nil, List.append_assoc] at this ⊢
              have hm : (l.set i y).map (E.enc c) = (l.take i).map (E.enc c) ++ E.enc c y :: (l.drop (i + 1)).map (E.enc c) := by rw [set_cut l i y hi]; simp
              rw [← hm] at this
              simpa using RC.arr (by simpa using hn) this .nil
      | _ => simp [V.setP] at hs
    | _ => cases s <;> simp [V.setP] at hs

theorem closeds_enc (ok : EnvOk E) (c : Nat) (xs : List (U c)) : closeds (xs.map (E.enc c)) = true := by
  induction xs with
  | nil => rfl
  | cons x xs ih => simp [closeds, ok.clo, ih]

/-- a value without names is the same whatever the names; only the blocks that stay for good count -/
theorem RC.closed (ok : EnvOk E) {St' : Bool → Nat → Prop} {ι' : Nat → Option Value} (hS : ∀ B, St false B → St' false B) {l : List (A U)} {cs : List Value} {bs : List Nat} (h : RC E w St ι l cs bs) : closeds l = true → RC E w St' ι' l cs bs := by
  induction h with
  | nil => intro _; exact .nil
  | int _ ih => intro hc; simp only [closeds, V.closed, Bool.true_and] at hc; exact .int (ih hc)
  | bool _ ih => intro hc; simp only [closeds, V.closed, Bool.true_and] at hc; exact .bool (ih hc)
  | str _ ih => intro hc; simp only [closeds, V.closed, Bool.true_and] at hc; exact .str (ih hc)
  | nilp _ ih => intro hc; simp only [closeds, V.closed, Bool.true_and] at hc; exact .nilp (ih hc)
  | nilf _ ih => intro hc; simp only [closeds, V.closed, Bool.true_and] at hc; exact .nilf (ih hc)
  | agg _ _ ih1 ih2 => intro hc; simp only [closeds, V.closed, Bool.and_eq_true] at hc; exact .agg (ih1 hc.1) (ih2 hc.2)
  | arr hn _ _ ih1 ih2 => intro hc; simp only [closeds, V.closed, Bool.true_and] at hc; exact .arr hn (ih1 (closeds_enc ok _ _)) (ih2 hc)
  | nils _ ih => intro hc; simp only [closeds, V.closed, Bool.true_and] at hc; exact .nils (ih hc)
  | roE _ ih => intro hc; simp only [closeds, Bool.and_eq_true] at hc; exact .roE (ih hc.2)
  | @ro g _ _ _ _ _ _ _ _ _ _ h2 h3 h4 _ ih1 ih =>
    intro hc
    simp only [closeds, V.closed, Bool.and_eq_true, Bool.not_eq_true'] at hc
    obtain ⟨h0, hc⟩ := hc
    subst h0
    exact .ro (ih1 (closeds_enc ok _ _)) h2 (hS _ h3) h4 (ih hc)
  | clipE _ ih => intro hc; simp only [closeds, Bool.and_eq_true] at hc; exact .clipE (ih hc.2)
  | @clip g _ _ _ _ _ _ _ _ _ h2 h3 _ ih1 ih =>
    intro hc
    simp only [closeds, V.closed, Bool.and_eq_true, Bool.not_eq_true'] at hc
    obtain ⟨h0, hc⟩ := hc
    subst h0
    exact .clip (ih1 (closeds_enc ok _ _)) h2 (hS _ h3) (ih hc)
  | uslE _ _ => intro hc; simp [closeds, V.closed] at hc
  | usl _ _ _ _ _ _ _ _ => intro hc; simp [closeds, V.closed] at hc
  | own _ _ _ => intro hc; simp [closeds, V.closed] at hc
  | sub _ _ _ _ _ _ _ => intro hc; simp [closeds, V.closed] at hc
  | bsl _ _ _ _ _ _ _ _ => intro hc; simp [closeds, V.closed] at hc
  | ptr _ _ _ _ _ => intro hc; simp [closeds, V.closed] at hc
  | yld _ _ _ => intro hc; simp [closeds, V.closed] at hc
  | @rp g _ _ _ _ _ _ _ _ _ _ _ h2 h3 h4 h5 _ ih1 ih =>
    intro hc
    simp only [closeds, V.closed, Bool.and_eq_true, Bool.not_eq_true'] at hc
    obtain ⟨h0, hc⟩ := hc
    subst h0
    exact .rp (ih1 (closeds_enc ok _ _)) h2 (hS _ h3) h4 h5 (ih hc)
  | clo _ h2 _ ih1 ih => intro hc; simp only [closeds, V.closed, Bool.and_eq_true] at hc; exact .clo (ih1 hc.1) h2 (ih hc.2)

theorem RC.encs (ok : EnvOk E) {St' : Bool → Nat → Prop} {ι' : Nat → Option Value} (hS : ∀ B, St false B → St' false B) {c : Nat} {xs : List (U c)} {cs : List Value} (h : RC E w St ι (xs.map (E.enc c)) cs []) : RC E w St' ι' (xs.map (E.enc c)) cs [] :=
  h.closed ok hS (closeds_enc ok c xs)
end
end Go.V
