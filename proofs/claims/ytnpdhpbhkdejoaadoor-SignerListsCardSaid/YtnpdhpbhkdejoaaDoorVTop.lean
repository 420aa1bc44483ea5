/- V: from a table's row to a law's statement. -/
import Derived.Test.YtnpdhpbhkdejoaaDoorVOpen
import Derived.WideKeyArgs
import Derived.ChangeSame
import Derived.ChangeAt
import Derived.RowKit
import Derived.ChangeCalls
import Derived.ChangeOld
import Derived.Carry
set_option linter.unusedVariables false
set_option linter.unusedSimpArgs false
namespace Go.V
open Go.ChangeShapes Go.WideShapes Go.ChangeAt Go.RowKit
variable {U : Nat → Type}

def EncL (E : Env U) : List TypeId → List (A U) → Prop
  | [], [] => True
  | t :: ts, a :: l => (∃ x : U t, E.enc t x = a) ∧ EncL E ts l
  | _, _ => False

section
variable {E : Env U} {D : List Nat} {H : Type} {enc : TypeId × Value → H} {W : World} {B : DataW H → Nat}

theorem agg_of (ok : EnvOk2 E) (hD : ∀ e ∈ D, DataT E D e) {t : Nat} (ht : t ∈ D) {r : Reach} {b0 : Nat} {v : Value} (hv : Value.okWide E.P W r b0 t v) : isAggV v = rowTy (E.ty t) := by
  have hT := hD t ht
  have hu := ok.under t
  unfold DataT at hT
  cases hy : E.ty t with
  | no => rw [hy] at hT; exact hT.elim
  | ptr e => rw [hy] at hT; exact hT.elim
  | func => rw [hy] at hT; exact hT.elim
  | int k => rw [hy] at hu; obtain ⟨n, rfl⟩ := okWide_int hu hv; rfl
  | bool => rw [hy] at hu; obtain ⟨n, rfl⟩ := okWide_bool hu hv; rfl
  | str => rw [hy] at hu; obtain ⟨n, rfl⟩ := okWide_string hu hv; rfl
  | sl e => rw [hy] at hu; obtain ⟨_, _, _, rfl⟩ := okWide_slice hu hv; rfl
  | arr n e =>
    rw [hy] at hu
    simp only [tyOk] at hu
    simp only [Value.okWide, hu] at hv
    obtain ⟨cs, rfl, -⟩ := hv
    rfl
  | st fs =>
    rw [hy] at hu
    obtain ⟨fields, hu, -⟩ := hu
    obtain ⟨cs, rfl, -⟩ := okWide_struct hu hv
    rfl

theorem open_args (ok : EnvOk2 E) (hD : ∀ e ∈ D, DataT E D e) (hB : Bulk B) {r : Reach} {b0 : Nat} : ∀ (ts : List TypeId) (vs : List Value) (ds : List (DataW H)) (ps : List MemPlace), (∀ t ∈ ts, t ∈ D) →
    DataW.TrodAll enc E.P W 0 (fun _ => true) true ts vs ds ps → (∀ (j : Nat) t v, ts[j]? = some t → vs[j]? = some v → Value.okWide E.P W r b0 t v) →
    ∃ as, EncL E ts as ∧ RVs E W (Below W) noNm as vs ∧ (∀ m, ∀ a ∈ as, wf E m a) ∧ ∀ m, (as.map fun a => ms E m a).sum ≤ (ds.map B).sum
  | [], vs, ds, ps, _, h, _ => by
    obtain ⟨rfl, rfl, -⟩ := trodAll_nil h
    exact ⟨[], trivial, trivial, by simp, by simp⟩
  | t :: ts, vs, ds, ps, ht, h, hv => by
    obtain ⟨v, vs, d, ds, p, q, rfl, rfl, rfl, ⟨n, h0⟩, hr⟩ := trodAll_cons h
    obtain ⟨as, h1, h2, h3, h4⟩ := open_args ok hD hB ts vs ds q (fun t h => ht t (by simp [h])) hr fun j t v h1 h2 => hv (j + 1) t v (by simpa using h1) (by simpa using h2)
    obtain ⟨x, hx⟩ := open_any ok hD hB n t (ht t (by simp)) _ d p h0
    refine ⟨E.enc t x :: as, ⟨⟨x, rfl⟩, h1⟩, ⟨.inr ⟨hx.rc, ?_⟩, h2⟩, ?_, ?_⟩
    · rw [hx.ag, agg_of ok hD (ht t (by simp)) (hv 0 t v rfl rfl)]
    · intro m a ha
      rcases List.mem_cons.1 ha with rfl | ha
      · exact hx.wf m
      · exact h3 m a ha
    · intro m
      have := hx.ms m
      have := h4 m
      simp only [List.map_cons, List.sum_cons]
      omega

theorem trods_stay {P : Program} (hl : laidOutB P = true) {W W' : World} {sp : Nat → Bool} : ∀ (ts : List TypeId) (vs : List Value) (ds : List (DataW H)) (ps : List MemPlace), (∀ t ∈ ts, P.readableRec t = true ∧ t < P.types.size) →
    DataW.TrodAll enc P W 0 (fun _ => true) true ts vs ds ps → (∀ p ∈ ps, W.sameAt W' p) → (∀ p ∈ ps, sp p.block = true) → DataW.TrodAll enc P W' 0 sp true ts vs ds ps
  | [], vs, ds, ps, _, h, _, _ => by
    obtain ⟨rfl, rfl, rfl⟩ := trodAll_nil h
    exact trodAll_mk0
  | t :: ts, vs, ds, ps, ht, h, hs, hsp => by
    obtain ⟨v, vs, d, ds, p, q, rfl, rfl, rfl, h0, hr⟩ := trodAll_cons h
    exact trodAll_cons_mk (WideElems.Trod_stays hl (ht t (by simp)).1 (ht t (by simp)).2 h0 (fun x hx => hs x (by simp [hx])) fun x hx => hsp x (by simp [hx]))
      (trods_stay hl ts vs ds q (fun t h => ht t (by simp [h])) hr (fun x hx => hs x (by simp [hx])) fun x hx => hsp x (by simp [hx]))

theorem below_of {W W' : World} (h : Fr (fun _ => False) W W') : RowKit.Below W.heap.size W W' :=
  ⟨h.os, h.tape, h.out, h.size, fun k hk => h.same k hk (fun h => h)⟩

/-- A LAW'S CONTRACT -/
theorem law_contract (ok : EnvOk2 E) (hD : ∀ e ∈ D, DataT E D e) (hB : Bulk B) {T : Nat → Tab U} (hT : ∀ k, TSound E (T k)) {f : FuncId} (hnp : Nat.blt f 1000000 = true ∧ memN f E.procs = false) {fn : Func}
    {Q : Nat → Prop} (hlaw : ∀ as N, EncL E fn.params.toList as → (∀ m, ∀ a ∈ as, wf E m a) → (∀ m, (as.map fun a => ms E m a).sum ≤ N) → Q N → ∃ k, T k f as [] fun r _ => r = .bool true)
    {s : ChangeSpec} (hvars : s.vars = []) (hspec : ∀ ds : List (DataW H), ds.length = fn.params.size → s.fn H ds = { results := [.lit (.bool true)], args := ds })
    (hl : laidOutB E.P = true) (hpar : ∀ t ∈ fn.params.toList, t ∈ D) (hread : ∀ t ∈ fn.params.toList, E.P.readableRec t = true ∧ t < E.P.types.size) {tb : TypeId} (hres : fn.resultTypes = #[tb]) (htb : E.P.underlying tb = some .bool)
    {args : Array Value} {ds gs : List (DataW H)} {before : List MemPlace} {b0 : Nat}
    (hglo : ∀ g, RT E W (Below W) noNm (E.glob g) (.pointer (some ⟨g, 0, .none⟩))) (hval : ∀ (j : Nat) t v, fn.params[j]? = some t → args[j]? = some v → Value.okWide E.P W .any b0 t v)
    (hW : DataW.Whole enc E.P fn.params.toList s.vars false W args.toList ds gs before) (hQ : Q (((ds ++ gs).map B).sum)) :
    Calls E.P f args W fun e W' => ∃ v, e = .returned v ∧ s.post enc E.P fn false true false false W args v W' := by
  have hW' := hW
  obtain ⟨p, q, hA, hV, rfl, hfz, hnd⟩ := hW
  rw [hvars] at hV
  obtain ⟨rfl, rfl⟩ := trodVars_none hV
  rw [List.append_nil] at hQ
  rw [List.append_nil] at hW'
  have hlen := (trodAll_length hA).2
  obtain ⟨as, h1, h2, h3, h4⟩ := open_args ok hD hB (r := .any) (b0 := b0) fn.params.toList args.toList ds p hpar hA fun j t v h1 h2 => hval j t v (by simpa using h1) (by simpa using h2)
  obtain ⟨k, hk⟩ := hlaw as _ h1 h3 h4 hQ
  obtain ⟨-, hS⟩ := ((hT k f as [] _ hk).1 hnp.1).1 hnp.2 rfl
  refine (hS W (Below W) args h2 (fun B ⟨g, hg⟩ => hg) ⟨fun B h => h, hglo⟩).mono ?_
  rintro e W' ⟨r, v, bs, St', rfl, hR⟩
  have hr := hR.k
  subst hr
  have hv : v = .bool true := by
    have := hR.val
    simp only [RTb] at this
    obtain ⟨q1, q2⟩ := this
    cases v with
    | agg cs => simp [isAggV, isAgg] at q2
    | bool b =>
      simp only [Value.cells] at q1
      cases q1; rfl
    | _ => simp only [Value.cells] at q1; cases q1
  subst hv
  have hb := below_of hR.fr
  have hfn := hspec ds (by rw [hlen]; simp)
  have hlt : ∀ x ∈ p, x.block < W.heap.size := fun x hx => hW'.lt x hx
  have hargs : ∀ sp : Nat → Bool, (∀ x ∈ p, sp x.block = true) → DataW.TrodAll enc E.P W' 0 sp true fn.params.toList args.toList ds p := fun sp hsp =>
    trods_stay hl _ _ _ _ hread hA (fun x hx => hb.same (hlt x hx)) hsp
  have hres' : ∀ (b : Nat) (sp : Nat → Bool) (hd : Bool), DataW.TrodAll enc E.P W' b sp hd fn.resultTypes.toList ((Value.bool true).resultList fn.resultTypes.size) [.lit (.bool true)] [] := fun b sp hd => by
    rw [hres]
    simpa [Value.resultList] using (trodAll_cons_mk (shut_bool htb true) trodAll_mk0)
  refine ⟨_, rfl, ds, [], p, [], p, [], hW', ?_, ?_, ?_, World.keptBut_mono (fun x hx => ⟨hx, .inr (.inl hx)⟩) (hb.frame (· ∈ p)), fun h => ?_⟩
  · rw [List.append_nil, hfn]; exact hres' _ _ _
  · rw [List.append_nil, hfn]; exact hargs _ fun x hx => by simpa using hlt x hx
  · rw [hvars, List.append_nil, hfn]; rfl
  · cases h
end
end Go.V
