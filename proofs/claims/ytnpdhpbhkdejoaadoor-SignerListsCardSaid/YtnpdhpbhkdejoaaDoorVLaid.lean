/- V: package variables that the row lists. -/
import Derived.Test.YtnpdhpbhkdejoaaDoorVTop
import Derived.OpenShut
import Derived.MakeChecks
import Derived.LaidMore
set_option linter.unusedVariables false
set_option linter.unusedSimpArgs false
namespace Go.V
variable {U : Nat → Type}

theorem laid_ints {H : Type} {P : Program} {W : World} {enc : TypeId × Value → H} {base : Nat} {spare : Nat → Bool} {held : Bool} {fuel t e n : Nat} {k : IntKind} {cs : List Value} {ns : List Int} {q : List MemPlace}
    (ht : P.underlying t = some (.array n e)) (he : P.underlying e = some (.int k)) (hc : P.cellsOf e = 1) (hct : P.cellsOf t = n) (hn : ns.length = n) (h : DataW.trod enc P W base spare held fuel t cs = some (.agg (ns.map fun x => .lit (.int k x)), q)) : cs = ns.map (.int k) := by
  obtain ⟨xs, m, rfl, hx, hlen, hn3, hel⟩ := DataW.trod_array ht h
  simp only [Prod.mk.injEq, DataW.agg.injEq] at hx
  refine List.ext_getElem? fun i => ?_
  by_cases hi : i < n
  · have h1 := hel i hi
    rw [hc, Nat.mul_one] at h1
    have hxi : xs[i]? = some xs[i] := List.getElem?_eq_getElem (by omega)
    rw [hxi] at h1
    obtain ⟨x, e1, e2, -⟩ := DataW.trod_int he h1
    have h2 := congrArg (·[i]?) hx.1
    simp only [List.getElem?_map, hxi, Option.map_some] at h2
    rw [List.getElem?_eq_getElem (by omega : i < ns.length)] at h2
    simp only [Option.map_some, Option.some.injEq] at h2
    rw [e2] at h2
    have h3 : x = ns[i] := by
      have := h2.symm
      simp only [DataW.lit.injEq, Lit.int.injEq, true_and] at this
      exact this
    have h4 := congrArg (·[0]?) e1
    simp only [List.getElem?_take, List.getElem?_drop, Nat.add_zero] at h4
    rw [List.getElem?_map, List.getElem?_eq_getElem (by omega : i < ns.length)]
    simpa [h3] using h4
  · rw [List.getElem?_eq_none (by omega), List.getElem?_eq_none (by simp; omega)]

/-- a package variable that holds an array of numbers, as a pointer to what stays -/
theorem glob_arr {E : Env U} {W : World} {name : String} {g n c : Nat} {k : IntKind} {cs : Array Value} {ns : List Int} {x : U c} {e : Nat} {l : List (U e)} (hg : E.P.globalNamed name = some g) (hv : W.var? E.P name = some cs) (hcs : cs.toList = ns.map (.int k)) (hpos : 0 < ns.length)
    (hx : E.enc c x = .arr e ns.length l) (hl : l.map (E.enc e) = ns.map (.int k)) : RT E W (Below W) noNm (.rp false c [x] 0 []) (.pointer (some ⟨g, 0, .none⟩)) := by
  have hat : W.rangeAt g 0 (ns.map (Value.int k)) := by
    intro j v hj
    rw [Nat.zero_add, World.var?_cell hg hv j, ← Array.getElem?_toList, hcs]
    exact hj
  have hlt : g < W.heap.size := by
    have h0 := hat 0 _ (List.getElem?_eq_getElem (by simpa using hpos))
    rcases Nat.lt_or_ge g W.heap.size with h | h
    · exact h
    · simp [World.cell?, Array.getElem?_eq_none h] at h0
  have rc : RC E W (Below W) noNm (l.map (E.enc e)) (ns.map (Value.int k)) [] := by
    rw [hl]
    clear hl hx hpos hcs hat
    induction ns with
    | nil => exact .nil
    | cons n ns ih => exact .int ih
  have hlen : l.length = ns.length := by simpa using congrArg List.length hl
  have rc2 : RC E W (Below W) noNm ([x].map (E.enc c)) (ns.map (Value.int k)) [] := by
    simp only [List.map_cons, List.map_nil, hx]
    simpa using RC.arr hlen rc .nil
  have : RC E W (Below W) noNm [.rp false c [x] 0 []] [.pointer (some ⟨g, 0 + (0 * E.sz c + po []), .none⟩)] [] := .rp rc2 hat hlt (by simp) trivial .nil
  exact RT.of_rv (.mk1 (by simpa [po] using this) rfl rfl)
end Go.V
