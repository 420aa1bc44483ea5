/- V: what comes into a law, opened: every datum that can be read is one of the tables' values. -/
import Derived.Test.YtnpdhpbhkdejoaaDoorVSeat
import Derived.ChangeArms
import Derived.OpenShut
import Derived.WideShapes
set_option linter.unusedVariables false
set_option linter.unusedSimpArgs false
namespace Go.V
variable {U : Nat → Type}

/-- how much a value holds: its parts, and a string's letters -/
def ms (E : Env U) : Nat → A U → Nat
  | 0, _ => 0
  | n + 1, a => match a with
    | .str s => s.size + 1
    | .agg l => (l.map fun x => ms E n x).sum + 1
    | .ro _ c l => (l.map fun x => ms E n (E.enc c x)).sum + 1
    | .arr c _ l => (l.map fun x => ms E n (E.enc c x)).sum + 1
    | _ => 1
/-- its numbers are their kinds' -/
def wf (E : Env U) : Nat → A U → Prop
  | 0, _ => True
  | n + 1, a => match a with
    | .int k x => k.min ≤ x ∧ x ≤ k.max
    | .str s => s.size ≤ maxLen
    | .agg l => ∀ x ∈ l, wf E n x
    | .ro _ c l => l.length ≤ maxLen ∧ ∀ x ∈ l, wf E n (E.enc c x)
    | .arr c m l => l.length = m ∧ ∀ x ∈ l, wf E n (E.enc c x)
    | _ => True

def EncAll (E : Env U) : List (TypeId × Nat) → List (A U) → Prop
  | [], [] => True
  | f :: fs, a :: l => (∃ x : U f.1, E.enc f.1 x = a) ∧ EncAll E fs l
  | _, _ => False
/-- fields lie one behind the other -/
def offs (E : Env U) : List (TypeId × Nat) → Nat → Option Nat
  | [], k => some k
  | f :: fs, k => cond (Nat.beq f.2 k) (offs E fs (k + E.sz f.1)) .none

/-- a type whose data are the tables' values -/
def DataT (E : Env U) (D : List Nat) (t : Nat) : Prop := match E.ty t with
  | .int k => ∀ n, ∃ x : U t, E.enc t x = .int k n
  | .bool => ∀ b, ∃ x : U t, E.enc t x = .bool b
  | .str => ∀ s, ∃ x : U t, E.enc t x = .str s
  | .sl e => e ∈ D ∧ 0 < E.sz e ∧ ∀ l : List (U e), ∃ x : U t, E.enc t x = .ro false e l
  | .arr m e => e ∈ D ∧ m * E.sz e = E.sz t ∧ ∀ l : List (U e), l.length = m → ∃ x : U t, E.enc t x = .arr e m l
  | .st fs => (∀ f ∈ fs, f.1 ∈ D) ∧ offs E fs 0 = some (E.sz t) ∧ ∀ l, EncAll E fs l → ∃ x : U t, E.enc t x = .agg l
  | _ => False

structure Bulk {H : Type} (B : DataW H → Nat) : Prop where
  str : ∀ s, s.length + 1 ≤ B (.lit (.string s))
  one : ∀ d, 1 ≤ B d
  sl : ∀ l m, (l.map B).sum + 1 ≤ B (.slice l m)
  agg : ∀ l, (l.map B).sum + 1 ≤ B (.agg l)

section
variable {E : Env U} {D : List Nat} {H : Type} {enc : TypeId × Value → H} {W : World} {B : DataW H → Nat}

def Below (W : World) : Bool → Nat → Prop := fun _ b => b < W.heap.size

theorem sz_eq (ok : EnvOk2 E) {t : Nat} (h : E.ty t ≠ .no) : E.P.cellsOf t = E.sz t := by
  obtain ⟨i, h1, h2, h3⟩ := ok.info t h
  simp [Program.cellsOf, h1, h2]

theorem sum_le {α β : Type} (f : α → Nat) (g : β → Nat) : ∀ (l : List α) (m : List β), l.length = m.length → (∀ (i : Nat) x y, l[i]? = some x → m[i]? = some y → f x ≤ g y) → (l.map f).sum ≤ (m.map g).sum
  | [], [], _, _ => by simp
  | [], _ :: _, h, _ => by simp at h
  | _ :: _, [], h, _ => by simp at h
  | a :: l, b :: m, h, k => by
    have h1 := k 0 a b rfl rfl
    have h2 := sum_le f g l m (by simpa using h) fun i x y hx hy => k (i + 1) x y (by simpa using hx) (by simpa using hy)
    simp only [List.map_cons, List.sum_cons]
    omega

/-- what is known of a datum that is opened -/
structure Opened (E : Env U) (W : World) (B : DataW H → Nat) (t : Nat) (cs : List Value) (d : DataW H) (x : U t) : Prop where
  rc : RC E W (Below W) noNm [E.enc t x] cs []
  wf : ∀ m, wf E m (E.enc t x)
  ms : ∀ m, ms E m (E.enc t x) ≤ B d
  ag : isAgg (E.enc t x) = rowTy (E.ty t)

/-- a list of data, opened one by one -/
theorem open_list {t : Nat} (cs : Nat → List Value) : ∀ (ds : List (DataW H)) (k : Nat), (∀ (i : Nat) d, ds[i]? = some d → ∃ x : U t, Opened E W B t (cs (k + i)) d x) →
    ∃ xs : List (U t), xs.length = ds.length ∧ (∀ (i : Nat) x, xs[i]? = some x → ∃ d, ds[i]? = some d ∧ Opened E W B t (cs (k + i)) d x)
  | [], k, _ => ⟨[], rfl, by simp⟩
  | d :: ds, k, h => by
    obtain ⟨x, hx⟩ := h 0 d rfl
    obtain ⟨xs, h1, h2⟩ := open_list cs ds (k + 1) fun i d hd => by
      obtain ⟨x, hx⟩ := h (i + 1) d (by simpa using hd)
      exact ⟨x, by rwa [Nat.add_assoc, Nat.add_comm 1 i]⟩
    refine ⟨x :: xs, by simp [h1], fun i y hy => ?_⟩
    cases i with
    | zero => simp at hy; subst hy; exact ⟨d, rfl, hx⟩
    | succ i =>
      obtain ⟨d', h3, h4⟩ := h2 i y (by simpa using hy)
      exact ⟨d', by simpa using h3, by rwa [Nat.add_assoc, Nat.add_comm 1 i] at h4⟩

/-- and their cells, laid one behind the other -/
theorem rc_list {t : Nat} (cs : Nat → List Value) : ∀ (xs : List (U t)) (k : Nat), (∀ (i : Nat) x, xs[i]? = some x → RC E W (Below W) noNm [E.enc t x] (cs (k + i)) []) →
    RC E W (Below W) noNm (xs.map (E.enc t)) ((List.range xs.length).flatMap fun i => cs (k + i)) []
  | [], k, _ => by simpa using RC.nil
  | x :: xs, k, h => by
    have h1 := h 0 x rfl
    have h2 := rc_list cs xs (k + 1) fun i y hy => by
      have := h (i + 1) y (by simpa using hy)
      rwa [Nat.add_assoc, Nat.add_comm 1 i]
    have h3 := RC.cons h1 h2
    simp only [List.map_cons, List.length_cons]
    rw [List.range_succ_eq_map, List.flatMap_cons, List.flatMap_map]
    have e : (fun i => cs (k + 1 + i)) = fun i => cs (k + i.succ) := by funext i; congr 1; omega
    rw [e] at h3
    simpa using h3

theorem cut_flat (cs : List Value) (s : Nat) : ∀ n, cs.length = n * s → ((List.range n).flatMap fun i => (cs.drop (i * s)).take s) = cs := by
  intro n
  induction n generalizing cs with
  | zero => intro h; simp at h; simp [h]
  | succ n ih =>
    intro h
    rw [List.range_succ_eq_map, List.flatMap_cons, List.flatMap_map]
    have h1 := ih (cs.drop s) (by rw [List.length_drop, h, Nat.add_mul]; omega)
    have e : (fun a => List.take s (List.drop (Nat.succ a * s) cs)) = fun i => ((cs.drop s).drop (i * s)).take s := by
      funext i; rw [List.drop_drop]; congr 2; rw [Nat.succ_mul]; omega
    rw [e, h1]
    simp

/-- the fields of a struct, opened -/
theorem open_fields (ok : EnvOk2 E) {cs : List Value} : ∀ (fs : List (TypeId × Nat)) (ds : List (DataW H)) (k e : Nat), offs E fs k = some e → e ≤ cs.length → ds.length = fs.length →
    (∀ (i : Nat) f d, fs[i]? = some f → ds[i]? = some d → ∃ x : U f.1, Opened E W B f.1 ((cs.drop f.2).take (E.sz f.1)) d x) →
    k ≤ e ∧ ∃ l, EncAll E fs l ∧ RC E W (Below W) noNm l ((cs.drop k).take (e - k)) [] ∧ (∀ m, ∀ a ∈ l, wf E m a) ∧ ∀ m, (l.map fun x => ms E m x).sum ≤ (ds.map B).sum
  | [], [], k, e, ho, he, _, _ => by
    simp only [offs, Option.some.injEq] at ho
    subst ho
    exact ⟨Nat.le_refl _, [], trivial, by simpa using RC.nil, by simp, by simp⟩
  | f :: fs, d :: ds, k, e, ho, he, hl, h => by
    simp only [offs] at ho
    cases hb : Nat.beq f.2 k with
    | false => rw [hb] at ho; simp at ho
    | true =>
      rw [hb] at ho
      simp only [cond_true] at ho
      have hk := Nat.eq_of_beq_eq_true hb
      obtain ⟨x, hx⟩ := h 0 f d rfl rfl
      obtain ⟨h0, l, h1, h2, h3, h4⟩ := open_fields ok fs ds (k + E.sz f.1) e ho he (by simpa using hl) fun i f' d' hf hd => h (i + 1) f' d' (by simpa using hf) (by simpa using hd)
      have hlen := hx.rc.length ok.toEnvOk
      simp only [sizes, Nat.add_zero, ok.encSize] at hlen
      refine ⟨by omega, E.enc f.1 x :: l, ⟨⟨x, rfl⟩, h1⟩, ?_, ?_, ?_⟩
      · have := RC.cons hx.rc h2
        rw [hk] at this
        have e1 : (List.take (E.sz f.1) (List.drop k cs)) ++ (List.take (e - (k + E.sz f.1)) (List.drop (k + E.sz f.1) cs)) = List.take (e - k) (List.drop k cs) := by
          rw [← List.drop_drop, show e - k = E.sz f.1 + (e - (k + E.sz f.1)) by omega, List.take_add]
        rw [e1] at this
        exact this
      · intro m a ha
        rcases List.mem_cons.1 ha with rfl | ha
        · exact hx.wf m
        · exact h3 m a ha
      · intro m
        have := hx.ms m
        have := h4 m
        simp only [List.map_cons, List.sum_cons]
        omega
  | [], _ :: _, _, _, _, _, hl, _ => by simp at hl
  | _ :: _, [], _, _, _, _, hl, _ => by simp at hl

theorem cells_at {w : World} {a : Addr} {n : Nat} {cs : List Value} (h : w.cells? 0 a n = some cs) (hn : 0 < n) (ha : a.spot = .none) : cs.length = n ∧ ∀ i, i < n → w.cell? ⟨a.block, a.off + i, .none⟩ = cs[i]? := by
  obtain ⟨h1, h2, h3⟩ := World.cells?_some h
  refine ⟨h2, fun i hi => ?_⟩
  rw [← h3 i hi]
  unfold Addr.add
  split
  · rename_i e; subst e; cases a; simp at ha; subst ha; rfl
  · rfl
theorem spot_of {w : World} {a : Addr} {v : Value} (h : w.cell? a = some v) : a.spot = .none ∧ a.block < w.heap.size := by
  unfold World.cell? at h
  split at h
  · rename_i c t f hh
    split at h
    · cases h
    · rename_i hs
      exact ⟨by simpa using hs, (Array.getElem?_eq_some_iff.1 hh).1⟩
  · cases h

/-- EVERY DATUM THAT CAN BE READ IS A VALUE OF THE TABLES -/
theorem open_any (ok : EnvOk2 E) (hD : ∀ e ∈ D, DataT E D e) (hB : Bulk B) : ∀ (n : Nat) (t : Nat), t ∈ D → ∀ (cs : List Value) (d : DataW H) (ps : List MemPlace),
    DataW.trod enc E.P W 0 (fun _ => true) true n t cs = some (d, ps) → ∃ x : U t, Opened E W B t cs d x
  | 0, t, ht, cs, d, ps, h => by simp [DataW.trod] at h
  | n + 1, t, ht, cs, d, ps, h => by
    have hT := hD t ht
    have hu := ok.under t
    unfold DataT at hT
    cases hy : E.ty t with
    | no => rw [hy] at hT; exact hT.elim
    | ptr e => rw [hy] at hT; exact hT.elim
    | func => rw [hy] at hT; exact hT.elim
    | int k =>
      rw [hy] at hT hu
      simp only at hT
      obtain ⟨m, rfl, hx, hw⟩ := DataW.trod_int hu h
      obtain ⟨x, e⟩ := hT m
      simp only [Prod.mk.injEq] at hx
      obtain ⟨rfl, rfl⟩ := hx
      simp only [Lit.wf, Bool.and_eq_true, decide_eq_true_eq] at hw
      refine ⟨x, by rw [e]; exact .int .nil, fun j => ?_, fun j => ?_, by rw [e, hy]; rfl⟩
      · rw [e]; cases j with
        | zero => trivial
        | succ j => exact hw
      · rw [e]; cases j with
        | zero => exact Nat.zero_le _
        | succ j => exact hB.one _
    | bool =>
      rw [hy] at hT hu
      simp only at hT
      obtain ⟨m, rfl, hx⟩ := DataW.trod_bool hu h
      obtain ⟨x, e⟩ := hT m
      simp only [Prod.mk.injEq] at hx
      obtain ⟨rfl, rfl⟩ := hx
      refine ⟨x, by rw [e]; exact .bool .nil, fun j => ?_, fun j => ?_, by rw [e, hy]; rfl⟩
      · rw [e]; cases j <;> trivial
      · rw [e]; cases j with
        | zero => exact Nat.zero_le _
        | succ j => exact hB.one _
    | str =>
      rw [hy] at hT hu
      simp only at hT
      obtain ⟨m, rfl, hx, hm⟩ := DataW.trod_string hu h
      obtain ⟨x, e⟩ := hT m
      simp only [Prod.mk.injEq] at hx
      obtain ⟨rfl, rfl⟩ := hx
      refine ⟨x, by rw [e]; exact .str .nil, fun j => ?_, fun j => ?_, by rw [e, hy]; rfl⟩
      · rw [e]; cases j with
        | zero => trivial
        | succ j => exact hm
      · rw [e]; cases j with
        | zero => exact Nat.zero_le _
        | succ j =>
          have := hB.str m.data.toList
          simp only [ms]
          simp only [Array.length_toList] at this
          exact this
    | sl e =>
      rw [hy] at hT hu
      simp only at hT
      obtain ⟨heD, hsz, hA⟩ := hT
      have hey : E.ty e ≠ .no := by
        intro hn
        have := hD e heD
        unfold DataT at this
        rw [hn] at this
        exact this
      have hcs := sz_eq ok hey
      rcases DataW.trod_slice hu h with ⟨rfl, hx⟩ | ⟨a, len, cap, elems, rest, n', hn', rfl, hx, -, hlc, hcap, hel, hget, -, -⟩
      · obtain ⟨x, ex⟩ := hA []
        simp only [Prod.mk.injEq] at hx
        obtain ⟨rfl, rfl⟩ := hx
        refine ⟨x, by rw [ex]; exact .roE .nil, fun j => ?_, fun j => ?_, by rw [ex, hy]; rfl⟩
        · rw [ex]; cases j with
          | zero => trivial
          | succ j => exact ⟨Nat.zero_le _, by simp⟩
        · rw [ex]; cases j with
          | zero => exact Nat.zero_le _
          | succ j => exact hB.one _
      · obtain rfl : n = n' := by omega
        simp only [Prod.mk.injEq] at hx
        obtain ⟨rfl, -⟩ := hx
        -- the cells of element i
        let cel : Nat → List Value := fun i => (W.cells? 0 (a.add (i * E.sz e)) (E.sz e)).getD []
        have each : ∀ (i : Nat) y, elems[i]? = some y → ∃ cs', W.cells? 0 (a.add (i * E.sz e)) (E.sz e) = some cs' ∧ DataW.trod enc E.P W 0 (fun _ => true) true n e cs' = some y := by
          intro i y hy'
          have hi : i < len := by rw [← hel]; exact (List.getElem?_eq_some_iff.1 hy').1
          have := hget i hi
          rw [hy', hcs, Option.bind_eq_some_iff] at this
          exact this
        have each2 : ∀ (i : Nat) d, (elems.map (·.1))[i]? = some d → ∃ x : U e, Opened E W B e (cel (0 + i)) d x := by
          intro i d hd
          rw [List.getElem?_map] at hd
          cases hy' : elems[i]? with
          | none => rw [hy'] at hd; simp at hd
          | some y =>
            rw [hy'] at hd
            simp only [Option.map_some, Option.some.injEq] at hd
            subst hd
            obtain ⟨cs', q1, q2⟩ := each i y hy'
            have : cel (0 + i) = cs' := by simp only [cel, Nat.zero_add, q1, Option.getD_some]
            rw [this]
            exact open_any ok hD hB n e heD cs' y.1 y.2 q2
        obtain ⟨xs, hxl, hxs⟩ := open_list cel _ 0 each2
        rw [List.length_map, hel] at hxl
        obtain ⟨x, ex⟩ := hA xs
        refine ⟨x, ?_, fun j => ?_, fun j => ?_, by rw [ex, hy]; rfl⟩
        · rw [ex]
          cases xs with
          | nil => simp only [List.length_nil] at hxl; subst hxl; exact .roE .nil
          | cons x0 xs0 =>
            have hpos : 0 < len := by rw [← hxl]; simp
            -- the first cell is there
            have hy0 : ∃ y, elems[0]? = some y := by
              cases hh : elems[0]? with
              | none => rw [List.getElem?_eq_none_iff] at hh; omega
              | some y => exact ⟨y, rfl⟩
            obtain ⟨y0, hy0⟩ := hy0
            obtain ⟨cs0, q1, q2⟩ := each 0 y0 hy0
            obtain ⟨-, q3, q4⟩ := World.cells?_some q1
            have q5 := q4 0 hsz
            have : ∃ v, cs0[0]? = some v := ⟨cs0[0]'(by omega), by simp⟩
            obtain ⟨v0, hv0⟩ := this
            rw [hv0, Nat.zero_mul, show (a.add 0).add 0 = a by simp [Addr.add]] at q5
            obtain ⟨hsp, hblk⟩ := spot_of q5
            obtain ⟨ab, ao, as⟩ := a
            simp only at hsp hblk
            subst hsp
            have rc := rc_list (E := E) (W := W) cel (x0 :: xs0) 0 fun i y hy' => by
              obtain ⟨d, -, hd⟩ := hxs i y hy'
              exact hd.rc
            rw [← hxl]
            refine .ro rc ?_ hblk (by rw [hxl]; exact hlc) .nil
            -- the cells lie there
            intro j v hj
            have hlen : ∀ i, i < len → (cel (0 + i)).length = E.sz e ∧ ∀ q, q < E.sz e → W.cell? ⟨ab, ao + (i * E.sz e + q), .none⟩ = (cel (0 + i))[q]? := by
              intro i hi
              have : ∃ y, elems[i]? = some y := by
                cases hh : elems[i]? with
                | none => rw [List.getElem?_eq_none_iff] at hh; omega
                | some y => exact ⟨y, rfl⟩
              obtain ⟨y, hy'⟩ := this
              obtain ⟨cs', r1, r2⟩ := each i y hy'
              have hc : cel (0 + i) = cs' := by simp only [cel, Nat.zero_add, r1, Option.getD_some]
              rw [hc]
              have hadd : (Addr.add ⟨ab, ao, .none⟩ (i * E.sz e)) = ⟨ab, ao + i * E.sz e, .none⟩ := by
                unfold Addr.add
                split
                · rename_i e0; rw [e0]; rfl
                · rfl
              rw [hadd] at r1
              obtain ⟨s1, s2⟩ := cells_at r1 hsz rfl
              refine ⟨s1, fun q hq => ?_⟩
              rw [← s2 q hq, Nat.add_assoc]
            -- where j lies
            have key : ∀ m, m ≤ len → ((List.range m).flatMap fun i => cel (0 + i)).length = m * E.sz e ∧ ∀ j v, ((List.range m).flatMap fun i => cel (0 + i))[j]? = some v → W.cell? ⟨ab, ao + j, .none⟩ = some v := by
              intro m
              induction m with
              | zero => intro _; simp
              | succ m ih =>
                intro hm
                obtain ⟨i1, i2⟩ := ih (by omega)
                obtain ⟨l1, l2⟩ := hlen m (by omega)
                rw [List.range_succ, List.flatMap_append, List.flatMap_singleton]
                refine ⟨by rw [List.length_append, i1, l1, Nat.succ_mul], fun j v hj => ?_⟩
                by_cases hjm : j < m * E.sz e
                · rw [List.getElem?_append_left (by omega)] at hj
                  exact i2 j v hj
                · rw [List.getElem?_append_right (by omega), i1] at hj
                  have hq := (List.getElem?_eq_some_iff.1 hj).1
                  rw [l1] at hq
                  have := l2 (j - m * E.sz e) hq
                  rw [hj] at this
                  rw [← this]
                  congr 2
                  omega
            have := (key (x0 :: xs0).length (by omega)).2 j v hj
            exact this
        · rw [ex]
          cases j with
          | zero => trivial
          | succ j =>
            refine ⟨by omega, fun y hy' => ?_⟩
            obtain ⟨i, hi⟩ := List.getElem?_of_mem hy'
            obtain ⟨d, -, hd⟩ := hxs i y hi
            exact hd.wf j
        · rw [ex]
          cases j with
          | zero => exact Nat.zero_le _
          | succ j =>
            have h1 := hB.sl (elems.map (·.1)) (rest.map (·.1))
            have h2 := sum_le (fun x => ms E j (E.enc e x)) B xs (elems.map (·.1)) (by rw [hxl, List.length_map, hel]) fun i y d hy' hd => by
              obtain ⟨d', h1, h2⟩ := hxs i y hy'
              rw [hd] at h1
              obtain rfl := Option.some.inj h1
              exact h2.ms j
            simp only [ms]
            omega
    | arr m e =>
      rw [hy] at hT hu
      simp only at hT
      obtain ⟨heD, hsz, hA⟩ := hT
      have hey : E.ty e ≠ .no := by
        intro hn
        have := hD e heD
        unfold DataT at this
        rw [hn] at this
        exact this
      have hcs := sz_eq ok hey
      have hct := sz_eq ok (t := t) (by rw [hy]; simp)
      obtain ⟨ys, n', hn', hx, hlen, hyl, hget⟩ := DataW.trod_array hu h
      obtain rfl : n = n' := by omega
      simp only [Prod.mk.injEq] at hx
      obtain ⟨rfl, -⟩ := hx
      have each2 : ∀ (i : Nat) d, (ys.map (·.1))[i]? = some d → ∃ x : U e, Opened E W B e ((cs.drop ((0 + i) * E.sz e)).take (E.sz e)) d x := by
        intro i d hd
        rw [List.getElem?_map] at hd
        cases hy' : ys[i]? with
        | none => rw [hy'] at hd; simp at hd
        | some y =>
          rw [hy'] at hd
          simp only [Option.map_some, Option.some.injEq] at hd
          subst hd
          have hi : i < m := by rw [← hyl]; exact (List.getElem?_eq_some_iff.1 hy').1
          have := hget i hi
          rw [hy', hcs] at this
          rw [Nat.zero_add]
          exact open_any ok hD hB n e heD _ y.1 y.2 this
      obtain ⟨xs, hxl, hxs⟩ := open_list (fun i => (cs.drop (i * E.sz e)).take (E.sz e)) _ 0 each2
      rw [List.length_map, hyl] at hxl
      obtain ⟨x, ex⟩ := hA xs hxl
      refine ⟨x, ?_, fun j => ?_, fun j => ?_, by rw [ex, hy]; rfl⟩
      · rw [ex]
        have rc := rc_list (E := E) (W := W) (fun i => (cs.drop (i * E.sz e)).take (E.sz e)) xs 0 fun i y hy' => by
          obtain ⟨d, -, hd⟩ := hxs i y hy'
          exact hd.rc
        simp only [Nat.zero_add] at rc
        rw [hxl, cut_flat cs (E.sz e) m (by rw [hlen, hct, hsz])] at rc
        simpa using RC.arr hxl rc .nil
      · rw [ex]
        cases j with
        | zero => trivial
        | succ j =>
          refine ⟨hxl, fun y hy' => ?_⟩
          obtain ⟨i, hi⟩ := List.getElem?_of_mem hy'
          obtain ⟨d, -, hd⟩ := hxs i y hi
          exact hd.wf j
      · rw [ex]
        cases j with
        | zero => exact Nat.zero_le _
        | succ j =>
          have h1 := hB.agg (ys.map (·.1))
          have h2 := sum_le (fun x => ms E j (E.enc e x)) B xs (ys.map (·.1)) (by rw [hxl, List.length_map, hyl]) fun i y d hy' hd => by
            obtain ⟨d', h1, h2⟩ := hxs i y hy'
            rw [hd] at h1
            obtain rfl := Option.some.inj h1
            exact h2.ms j
          simp only [ms]
          omega
    | st fs =>
      rw [hy] at hT hu
      simp only at hT
      obtain ⟨hfD, hoff, hA⟩ := hT
      obtain ⟨fields, hu, hfs⟩ := hu
      have hct := sz_eq ok (t := t) (by rw [hy]; simp)
      obtain ⟨ys, n', hn', hx, hlen, hyl, hget⟩ := DataW.trod_struct hu h
      obtain rfl : n = n' := by omega
      simp only [Prod.mk.injEq] at hx
      obtain ⟨rfl, -⟩ := hx
      have hfl : fs.length = fields.size := by rw [hfs]; simp
      obtain ⟨-, l, q1, q2, q3, q4⟩ := open_fields (E := E) (W := W) (B := B) ok (cs := cs) fs (ys.map (·.1)) 0 (E.sz t) hoff (by rw [hlen, hct]; exact Nat.le_refl _) (by rw [List.length_map, hyl, hfl]) fun i f d hf hd => by
        rw [List.getElem?_map] at hd
        cases hy' : ys[i]? with
        | none => rw [hy'] at hd; simp at hd
        | some y =>
          rw [hy'] at hd
          simp only [Option.map_some, Option.some.injEq] at hd
          subst hd
          rw [hfs, List.getElem?_map] at hf
          cases hf' : fields.toList[i]? with
          | none => rw [hf'] at hf; simp at hf
          | some fl =>
            rw [hf'] at hf
            simp only [Option.map_some, Option.some.injEq] at hf
            subst hf
            have hfm : fl.type ∈ D := hfD (fl.type, fl.offset) (by rw [hfs]; exact List.mem_map.2 ⟨fl, List.mem_of_getElem? hf', rfl⟩)
            have hey : E.ty fl.type ≠ .no := by
              intro hn
              have := hD _ hfm
              unfold DataT at this
              rw [hn] at this
              exact this
            have := hget i fl (by simpa using hf')
            rw [hy', sz_eq ok hey] at this
            exact open_any ok hD hB n fl.type hfm _ y.1 y.2 this
      obtain ⟨x, ex⟩ := hA l q1
      refine ⟨x, ?_, fun j => ?_, fun j => ?_, by rw [ex, hy]; rfl⟩
      · rw [ex]
        rw [List.drop_zero, Nat.sub_zero, List.take_of_length_le (by rw [hlen, hct]; exact Nat.le_refl _)] at q2
        simpa using RC.agg q2 .nil
      · rw [ex]; cases j with
        | zero => trivial
        | succ j => exact q3 j
      · rw [ex]; cases j with
        | zero => exact Nat.zero_le _
        | succ j =>
          have := q4 j
          have := hB.agg (ys.map (·.1))
          simp only [ms]
          omega
end
end Go.V
