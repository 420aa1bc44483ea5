/- V: functions, and tables of functions. -/
import Derived.Test.YtnpdhpbhkdejoaaDoorVGo
set_option linter.unusedVariables false
set_option linter.unusedSimpArgs false
namespace Go.V
variable {U : Nat → Type}

theorem ctxs_in : ∀ (c : Code) (k : List Item), ∀ y ∈ ctxs c k, ∀ x ∈ ctxsT y.2, x ∈ ctxs c k ∨ x ∈ ctxsT k
  | .region id ops d, k, y, hy, x, hx => by
    simp only [ctxs, List.mem_cons, List.not_mem_nil, or_false] at hy
    subst hy
    simpa [ctxsT, ctxs] using hx
  | .seq a b, k, y, hy, x, hx => by
    simp only [ctxs, List.mem_append] at hy ⊢
    rcases hy with hy | hy
    · rcases ctxs_in a _ y hy x hx with h | h
      · exact .inl (.inl h)
      · simp only [ctxsT, List.mem_append] at h
        rcases h with h | h
        · exact .inl (.inr h)
        · exact .inr h
    · rcases ctxs_in b _ y hy x hx with h | h
      · exact .inl (.inr h)
      · exact .inr h
  | .cond c a b, k, y, hy, x, hx => by
    simp only [ctxs, List.mem_append] at hy ⊢
    rcases hy with hy | hy
    · rcases ctxs_in a _ y hy x hx with h | h
      · exact .inl (.inl h)
      · exact .inr h
    · rcases ctxs_in b _ y hy x hx with h | h
      · exact .inl (.inr h)
      · exact .inr h
  | .block i c, k, y, hy, x, hx => by
    simp only [ctxs] at hy ⊢
    rcases ctxs_in c _ y hy x hx with h | h
    · exact .inl h
    · exact .inr h
  | .scope c, k, y, hy, x, hx => by
    simp only [ctxs] at hy ⊢
    rcases ctxs_in c _ y hy x hx with h | h
    · exact .inl h
    · exact .inr h
  | .loop c, k, y, hy, x, hx => by
    simp only [ctxs] at hy ⊢
    rcases ctxs_in c _ y hy x hx with h | h
    · exact .inl h
    · simp only [ctxsT, List.mem_append] at h
      exact h
  | .skip, k, y, hy, x, hx => by simp [ctxs] at hy
  | .exit _, k, y, hy, x, hx => by simp [ctxs] at hy
  | .ret, k, y, hy, x, hx => by simp [ctxs] at hy
  | .label _, k, y, hy, x, hx => by simp [ctxs] at hy
  | .goto _, k, y, hy, x, hx => by simp [ctxs] at hy
  | .rangeFunc g ps a b, k, y, hy, x, hx => by
    simp only [ctxs, List.mem_cons, List.not_mem_nil, or_false] at hy
    subst hy
    simpa [ctxsT, ctxs] using hx
  | .refuse _, k, y, hy, x, hx => by simp [ctxs] at hy

def fnOk (P : Program) (f : FuncId) : Bool := match P.funcs[f]? with
  | some fn => (match fn.body with | some c => okBody fn.ntmps c | .none => false) && !(fn.name == "runtime.NumGoroutine")
  | .none => false

section
variable {E : Env U} {K : A U → List (AObj U) → Prop} {T : Tab U} {C : Cut U} {f : FuncId}

theorem fnOk_spec (h : fnOk E.P f = true) : ∃ fn c, E.P.funcs[f]? = some fn ∧ fn.body = some c ∧ okBody fn.ntmps c = true ∧ (fn.name == "runtime.NumGoroutine") = false := by
  unfold fnOk at h
  cases hf : E.P.funcs[f]? with
  | none => rw [hf] at h; simp at h
  | some fn =>
    rw [hf] at h
    simp only [Bool.and_eq_true, Bool.not_eq_true'] at h
    cases hb : fn.body with
    | none => rw [hb] at h; simp at h
    | some c => rw [hb] at h; exact ⟨fn, c, rfl, hb, h.1, h.2⟩

theorem rvs_nth {w : World} {St : Bool → Nat → Prop} {ι : Nat → Option Value} : ∀ {args : List (A U)} {vs : List Value} (d : Nat), RVs E w St ι args vs → nth args d = .none ∨ ∃ v, vs[d]? = some v ∧ RV E w St ι (nth args d) v
  | [], vs, d, h => .inl (by simp [nth])
  | a :: l, [], d, h => h.elim
  | a :: l, v :: vs, 0, h => by
    rcases h.1 with h | h
    · exact .inl h
    · exact .inr ⟨v, rfl, h⟩
  | a :: l, v :: vs, d + 1, h => by
    rcases rvs_nth d h.2 with h | ⟨u, h1, h2⟩
    · exact .inl h
    · exact .inr ⟨u, by simpa using h1, h2⟩

theorem vproc_sound (ok : EnvOk2 E) (TS : TSound E T) (CS : CSound E C) (hm : E.P.follows .mixedOrders = true) (hf : fnOk E.P f = true) {args : List (A U)} {objs : List (AObj U)} (hv : vfunc E T C f args objs K) :
    ∀ (w : World) (St : Bool → Nat → Prop) (ι : Nat → Option Value) (vs : Array Value), RVs E w St ι args vs.toList → HeapR E (nthO objs) w ι St → (∀ m, objs.length ≤ m → ι m = none) → Plain E f (OwnH (nthO objs) ι) →
      Calls E.P f vs w (RetPost E f w St (OwnH (nthO objs) ι) objs.length ι K) := by
  obtain ⟨fn, c, h1, h2, h3, h4⟩ := fnOk_spec hf
  intro w St ι vs hvs hH hout hpl
  unfold vfunc at hv
  have e1 : resOf E.P f = fn.results := by unfold resOf; rw [h1]
  have e2 : bodyOf E.P f = c := by unfold bodyOf; rw [h1]; simp only [h2]
  rw [e1, e2] at hv
  let a : Act := { tmps := vs ++ Array.replicate (fn.ntmps - vs.size) undef, defers := [] }
  let b : Frame := { (default : Frame) with fn := f, kind := .normal, roundOf := .none }
  have henter : Frame.enter E.P f vs .normal = b.atR a [.code c] := by
    simp [Frame.enter, Frame.atR, h1, h2, a, b]
  have hN : fn.ntmps ≤ a.tmps.size := by simp only [a, Array.size_append, Array.size_replicate]; omega
  have I : Inv E a.tmps.size w St (OwnH (nthO objs) ι) (objs.length, ι, []) (S.enter args objs) a.tmps w ι St := by
    refine ⟨⟨rfl, fun d => ?_, hH.obj, hH.dis, hH.stb, hH.apt, hH.sup⟩, Fr.refl _ _, fun B hB => .inl hB, fun g B h => .inl h, fun n hn => rfl, Nat.le_refl _, rfl, fun x hx => (by cases hx), .nil⟩
    show RT E w St ι (nth args d) _
    rcases rvs_nth d hvs with h | ⟨v, e, h⟩
    · rw [h]; exact trivial
    · have : a.tmps.getD d undef = v := by
        simp only [a]
        rw [Array.getD_eq_getD_getElem?, Array.getElem?_append_left]
        · rw [← Array.getElem?_toList, e]; rfl
        · have := (List.getElem?_eq_some_iff.1 e).1; simpa using this
      rw [this]
      exact RT.of_rv h
  have := vgo_sound (rnd := none) ok TS CS hm h1 h2 h3 hN (fun _ => hpl) fuel false [.code c] (S.enter args objs) b a w ι St [] hv (fun x hx => by simpa [ctxsT, placesOf] using hx) rfl rfl ⟨rfl, rfl, fun x hx => by cases hx⟩ I hout
  intro cs
  obtain ⟨e, w', fr, q1, q2, q3, q4⟩ := this.1 rfl cs
  rw [← henter] at q2
  exact ⟨e, w', fr, q1, q2, q3, q4⟩

theorem vfunc_sound (ok : EnvOk2 E) (TS : TSound E T) (CS : CSound E C) (hm : E.P.follows .mixedOrders = true) (hf : fnOk E.P f = true) {args : List (A U)} {objs : List (AObj U)} (hv : vfunc E T C f args objs K) : Nat.blt f 1000000 = true → (memN f E.procs = false → objs = [] → FnSound E f args K) ∧ (memN f E.procs = true → ProcSound E f args objs K) := by
  obtain ⟨fn, c, h1, h2, h3, h4⟩ := fnOk_spec hf
  refine fun _ => ⟨fun hp ho => ⟨⟨fn, h1, by rw [h2]; rfl, h4⟩, fun w St vs hvs hlt hsup => ?_⟩, fun hp => ⟨⟨fn, h1, by rw [h2]; rfl, h4⟩, fun w St ι vs hvs hH hout => ?_⟩⟩
  · subst ho
    have hH : HeapR E (nthO ([] : List (AObj U))) w noNm St := ⟨fun n => by show RO E w St noNm (nthO [] n) _; exact trivial, fun n m B hn => by simp [nthO, isLive] at hn, hlt, fun n B hn => by simp [nthO, isLive] at hn, hsup⟩
    refine (vproc_sound ok TS CS hm hf hv w St noNm vs hvs hH (fun _ _ => rfl) (fun _ B ⟨n, hn, _⟩ => by simp [nthO, isLive] at hn)).mono fun e w' h => ?_
    rcases h with ⟨-, h⟩ | ⟨h, -⟩
    · exact h
    · rw [hp] at h; cases h
  · refine (vproc_sound ok TS CS hm hf hv w St ι vs hvs hH hout (fun h => by rw [hp] at h; cases h)).mono fun e w' h => ?_
    rcases h with ⟨h, -⟩ | ⟨-, h⟩
    · rw [hp] at h; cases h
    · exact h

theorem ctxOf_or (id : Nat) : ∀ l : List (Nat × List Item), ctxOf id l = [] ∨ (id, ctxOf id l) ∈ l := by
  intro l
  induction l with
  | nil => exact .inl rfl
  | cons y l ih =>
    obtain ⟨i, k⟩ := y
    simp only [ctxOf]
    cases hb : Nat.beq i id with
    | true => rw [Nat.eq_of_beq_eq_true hb]; exact .inr (by simp)
    | false =>
      rcases ih with h | h
      · exact .inl (by simpa using h)
      · exact .inr (List.mem_cons_of_mem _ (by simpa using h))

/-- behind a place of a frame come places of the same frame -/
theorem places_ctx {c : Code} {id : Nat} (hn : ((places c).map (·.1)).Nodup) : ∀ x ∈ ctxsT (ctxAll id c), x ∈ placesOf (inRd id c) c := by
  intro x hx
  have hor := ctxOf_or id (places c)
  have e : ctxAll id c = ctxOf id (places c) := rfl
  rw [e] at hx
  rcases hor with h | h
  · rw [h] at hx; simp [ctxsT] at hx
  · rcases List.mem_append.1 h with h | h
    · rw [placesOf_rd (rd := false) hn h]
      rcases ctxs_in c [] _ h x hx with h | h
      · exact h
      · simp [ctxsT] at h
    · rw [placesOf_rd (rd := true) hn h]
      obtain ⟨p, q, h1, h2⟩ := roundC_of _ _ h
      refine roundC_in _ p q x h1 ?_
      rcases h2 with h2 | h2
      · rcases ctxs_in p _ _ h2 x hx with h | h
        · exact .inl h
        · simp only [ctxsT, List.mem_append, List.not_mem_nil, or_false] at h
          exact .inr h
      · rcases ctxs_in q _ _ h2 x hx with h | h
        · exact .inr h
        · simp [ctxsT] at h

theorem vcut_sound (ok : EnvOk2 E) (TS : TSound E T) (CS : CSound E C) (hm : E.P.follows .mixedOrders = true) (hf : fnOk E.P f = true) {id : Nat} {live : List Nat} {nb : Nat} {vals : List (A U)} {objs : List (AObj U)} (hv : vcut E T C f id live nb vals objs K) : CutOk E f id live nb vals objs K := by
  obtain ⟨fn, c, h1, h2, h3, h4⟩ := fnOk_spec hf
  intro fn' N w0 St0 O0 nbi ιi H rnd b a w ι St g1 g2 g3 g4 grd gF hpl g6 g7
  rw [h1] at g1
  obtain rfl := Option.some.inj g1
  unfold vcut at hv
  have e1 : resOf E.P f = fn.results := by unfold resOf; rw [h1]
  have e2 : bodyOf E.P f = c := by unfold bodyOf; rw [h1]; simp only [h2]
  rw [grd, e1, e2] at hv
  rw [e2] at gF grd ⊢
  have hn := h3
  unfold okBody at hn
  simp only [Bool.and_eq_true, fstN_eq, distinctN_iff] at hn
  exact vgo_sound ok TS CS hm h1 h2 h3 g2 hpl fuel true _ _ b a w ι St H hv (fun x hx => by rw [← grd]; exact places_ctx hn.1 x hx) g3 g4 gF g6 g7

theorem vround_sound (ok : EnvOk2 E) (TS : TSound E T) (CS : CSound E C) (hm : E.P.follows .mixedOrders = true) (hf : fnOk E.P f = true) {id : Nat} {args : List (A U)} {objs : List (AObj U)} (hv : vround E T C f id args objs K) : RoundSound E f id args objs K := by
  obtain ⟨fn, c, h1, h2, h3, h4⟩ := fnOk_spec hf
  have e1 : resOf E.P f = fn.results := by unfold resOf; rw [h1]
  have e2 : bodyOf E.P f = c := by unfold bodyOf; rw [h1]; simp only [h2]
  have hn := h3
  unfold okBody at hn
  simp only [Bool.and_eq_true, fstN_eq, distinctN_iff] at hn
  unfold vround at hv
  rw [e1, e2] at hv
  split at hv
  rotate_left
  · exact hv.elim
  rename_i g ps p q k live hctx hlive
  cases hb : (Nat.beq args.length (ps.toList.length + live.length) && distinctN (ps.toList ++ live)) with
  | false => rw [hb] at hv; exact hv.elim
  | true =>
  rw [hb] at hv
  simp only [cond_true] at hv
  simp only [Bool.and_eq_true, distinctN_iff] at hb
  have hlen := Nat.eq_of_beq_eq_true hb.1
  have hmem : (1000000 + id, .code (.rangeFunc g ps p q) :: k) ∈ places c := by
    have e : ctxAll (1000000 + id) c = ctxOf (1000000 + id) (places c) := rfl
    rcases ctxOf_or (1000000 + id) (places c) with h | h
    · rw [← e, hctx] at h; cases h
    · rwa [← e, hctx] at h
  have hrow := okRows_iff hn.2 _ hmem
  simp only [okRow, Bool.and_eq_true, List.all_eq_true, Nat.blt_eq] at hrow
  have same : ∀ live' L, LoopIs E f id live' L → live' = live ∧ L.params = ps ∧ L.assign = p ∧ L.body = q ∧ L.fn = f ∧ fn.ntmps ≤ L.tmps.size := by
    rintro live' L ⟨⟨l1, l2⟩, ⟨g', k', l3⟩, fn', l4, l5⟩
    rw [hlive] at l1
    rw [e2, hctx] at l3
    rw [h1] at l4
    obtain rfl := Option.some.inj l4
    simp only [List.cons.injEq, Item.code.injEq, Code.rangeFunc.injEq] at l3
    obtain ⟨⟨-, l6, l7, l8⟩, -⟩ := l3
    exact ⟨(Option.some.inj l1).symm, l6.symm, l7.symm, l8.symm, l2, l5⟩
  refine ⟨fun live' L hL => ?_, fun ro w St ι l live' L tm hL htm hvs hH hout hheap hst hno hnst => ?_⟩
  · obtain ⟨rfl, l6, l7, l8, l9, l10⟩ := same live' L hL
    rw [l6]
    exact ⟨by rw [hlen]; simp, hb.2, fun p hp => Nat.lt_of_lt_of_le (hrow.2 p hp) l10⟩
  · obtain ⟨rfl, l6, l7, l8, l9, l10⟩ := same live' L hL
    let a : Act := { tmps := tm, defers := [] }
    let b : Frame := { (default : Frame) with fn := f, kind := .normal, roundOf := some l }
    have henter : Frame.round l f tm L.assign L.body .normal = b.atR a (roundT p q) := by
      rw [l7, l8]
      simp [Frame.round, Frame.atR, roundT, a, b]
    have hLr : ({ L with state := if hasBegin (roundT p q) then .ready else .busy } : Loop) = L := by
      have : hasBegin (roundT p q) = true := rfl
      rw [this, if_pos rfl, ← hst]
    have I : Inv E tm.size w St (fun B => OwnH (nthO objs) ι B ∨ B = l) (objs.length, ι, [(l, .loop L)]) (S.ofLay (ps.toList ++ live') objs.length args objs) a.tmps w ι St := by
      rw [l6] at hvs
      refine ⟨⟨rfl, fun d => hvs.holds'.pairUp d, hH.obj, hH.dis, hH.stb, hH.apt, hH.sup⟩, Fr.refl _ _, fun B hB => .inl (.inl hB), fun g B h => .inl h, fun n hn => rfl, Nat.le_refl _, rfl, fun x hx => ?_, by simp⟩
      simp only [List.mem_cons, List.not_mem_nil, or_false] at hx
      subst hx
      exact ⟨hheap, hno, hnst, .inl (.inr rfl)⟩
    have := vgo_sound (rnd := some (l, L)) ok TS CS hm h1 h2 h3 (by rw [htm]; exact l10) (fun h => by cases h) fuel false (roundT p q) _ b a w ι St [(l, .loop L)] hv (roundT_places (places_rnds hmem rfl)) rfl rfl ⟨rfl, rfl, by rw [hLr]⟩ I hout
    refine ⟨trivial, fun c' cs _ => ?_⟩
    obtain ⟨v, w', q1, q2⟩ := this.2 (by simp [b]) c' cs
    rw [← henter] at q2
    exact ⟨.returned v, w', q1, stepsIn_wide.2 q2⟩

theorem RowSound.of_fn (hf : Nat.blt f 1000000 = true) {args : List (A U)} {objs : List (AObj U)} (h : Nat.blt f 1000000 = true → (memN f E.procs = false → objs = [] → FnSound E f args K) ∧ (memN f E.procs = true → ProcSound E f args objs K)) : RowSound E f args objs K := by
  refine ⟨h, fun g id _ e => ?_⟩
  rw [Nat.blt_eq] at hf
  have e' : @Eq Nat f (1000000 * (g + 1) + id) := e
  have hf' : @LT.lt Nat _ f 1000000 := hf
  omega
theorem RowSound.of_round {g id : Nat} (hid : Nat.blt id 1000000 = true) {args : List (A U)} {objs : List (AObj U)} (h : RoundSound E g id args objs K) : RowSound E (ykey g id) args objs K := by
  rw [Nat.blt_eq] at hid
  refine ⟨fun h => ?_, fun g' id' hi e => ?_⟩
  · rw [Nat.blt_eq] at h
    have h' : 1000000 * (g + 1) + id < 1000000 := h
    omega
  · rw [Nat.blt_eq] at hi
    have e' : @Eq Nat (1000000 * (g + 1) + id) (1000000 * (g' + 1) + id') := e
    obtain rfl : @Eq Nat g g' := by omega
    obtain rfl : @Eq Nat id id' := by omega
    exact h

/-- tables, by how deep they may call -/
theorem tables (ok : EnvOk2 E) (hm : E.P.follows .mixedOrders = true) {T : Nat → Tab U} {C : Nat → Cut U} (hT0 : ∀ f args objs K, ¬ T 0 f args objs K) (hC0 : ∀ f id nb vals objs K, ¬ C 0 f id nb vals objs K)
    (hT : ∀ k f args objs K, T (k + 1) f args objs K → (fnOk E.P f = true ∧ Nat.blt f 1000000 = true ∧ vfunc E (T k) (C k) f args objs K) ∨ (∃ g id, f = ykey g id ∧ fnOk E.P g = true ∧ Nat.blt id 1000000 = true ∧ vround E (T k) (C k) g id args objs K) ∨ RowSound E f args objs K)
    (hC : ∀ k f id live nb vals objs K, cutOf f id E.cuts = some live → C (k + 1) f id nb vals objs K → fnOk E.P f = true ∧ vcut E (T k) (C k) f id live nb vals objs K) :
    ∀ k, TSound E (T k) ∧ CSound E (C k)
  | 0 => ⟨fun f args objs K h => absurd h (hT0 f args objs K), fun f id live nb vals objs K _ h => absurd h (hC0 f id nb vals objs K)⟩
  | k + 1 => by
    obtain ⟨h1, h2⟩ := tables ok hm hT0 hC0 hT hC k
    refine ⟨fun f args objs K h => ?_, fun f id live nb vals objs K hc h => ?_⟩
    · rcases hT k f args objs K h with ⟨g1, g2, g3⟩ | ⟨g, id, rfl, g1, g2, g3⟩ | h
      · exact RowSound.of_fn g2 (vfunc_sound ok h1 h2 hm g1 g3)
      · exact RowSound.of_round g2 (vround_sound ok h1 h2 hm g1 g3)
      · exact h
    · obtain ⟨g1, g2⟩ := hC k f id live nb vals objs K hc h
      exact vcut_sound ok h1 h2 hm g1 g2
end
end Go.V
#print axioms Go.V.tables
