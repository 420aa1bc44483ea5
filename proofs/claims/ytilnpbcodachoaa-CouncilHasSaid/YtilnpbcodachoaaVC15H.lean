import Derived.Test.YtilnpbcodachoaaVC15E
import Derived.Ground.NamesProg
import Derived.Shelf.Slices.In.SortAlone
import Derived.Shelf.Slices.In.SortNone
import Derived.Lib.SortBridge
import Derived.Sort.EveryDepth
namespace Go.Proofs
open Go.Shelf
/-- the numbers of slices.Sort and what it calls, here -/
def sortRen : Go.Shelf.Ren :=
{
  f := fun x =>
    match x with
    | 189 => 42
    | 125 => 47
    | 257 => 46
    | 128 => 58
    | 129 => 59
    | 294 => 49
    | 295 => 50
    | 296 => 51
    | 297 => 52
    | 298 => 53
    | 299 => 54
    | 216 => 55
    | 300 => 56
    | 301 => 57
    | 328 => 60
    | 329 => 61
    | 330 => 62
    | 331 => 63
    | 332 => 64
    | 215 => 65
    | 343 => 66
    | n => n,
  t := fun x =>
    match x with
    | 28 => 22
    | 3 => 3
    | 46 => 63
    | 0 => 0
    | 51 => 74
    | 53 => 76
    | 4 => 4
    | 183 => 67
    | 182 => 66
    | 131 => 71
    | 5 => 5
    | 9 => 9
    | 218 => 77
    | 222 => 81
    | 228 => 83
    | 229 => 84
    | n => n,
  g := fun n => n }
theorem laysSort : Lays.n189 Try.prog sortRen :=
{ mixed := by kernel_rfl, f125 := Try.func47.trans (congrArg some (by kernel_rfl)),
  f128 := Try.func58.trans (congrArg some (by kernel_rfl)),
  f129 := Try.func59.trans (congrArg some (by kernel_rfl)),
  f189 := Try.func42.trans (congrArg some (by kernel_rfl)),
  f215 := Try.func65.trans (congrArg some (by kernel_rfl)),
  f216 := Try.func55.trans (congrArg some (by kernel_rfl)),
  f257 := Try.func46.trans (congrArg some (by kernel_rfl)),
  f294 := Try.func49.trans (congrArg some (by kernel_rfl)),
  f295 := Try.func50.trans (congrArg some (by kernel_rfl)),
  f296 := Try.func51.trans (congrArg some (by kernel_rfl)),
  f297 := Try.func52.trans (congrArg some (by kernel_rfl)),
  f298 := Try.func53.trans (congrArg some (by kernel_rfl)),
  f299 := Try.func54.trans (congrArg some (by kernel_rfl)),
  f300 := Try.func56.trans (congrArg some (by kernel_rfl)),
  f301 := Try.func57.trans (congrArg some (by kernel_rfl)),
  f328 := Try.func60.trans (congrArg some (by kernel_rfl)),
  f329 := Try.func61.trans (congrArg some (by kernel_rfl)),
  f330 := Try.func62.trans (congrArg some (by kernel_rfl)),
  f331 := Try.func63.trans (congrArg some (by kernel_rfl)),
  f332 := Try.func64.trans (congrArg some (by kernel_rfl)),
  f343 := Try.func66.trans (congrArg some (by kernel_rfl)), t0 := Try.underlying0,
  a0 := Try.isAgg0, z0 := Try.sizeOf0, v0 := Try.zeroValue0, t3 := Try.underlying3, a3 := Try.isAgg3, z3 := Try.sizeOf3,
  v3 := Try.zeroValue3, t4 := Try.underlying4, a4 := Try.isAgg4, z4 := Try.sizeOf4, v4 := Try.zeroValue4,
  t5 := Try.underlying5, a5 := Try.isAgg5, z5 := Try.sizeOf5, v5 := Try.zeroValue5, t9 := Try.underlying9,
  a9 := Try.isAgg9, z9 := Try.sizeOf9, v9 := Try.zeroValue9, t28 := Try.underlying22, a28 := Try.isAgg22,
  z28 := Try.sizeOf22, v28 := Try.zeroValue22, t46 := Try.underlying63, a46 := Try.isAgg63, z46 := Try.sizeOf63,
  v46 := Try.zeroValue63, t51 := Try.underlying74, a51 := Try.isAgg74, z51 := Try.sizeOf74, v51 := Try.zeroValue74,
  t53 := Try.underlying76, a53 := Try.isAgg76, z53 := Try.sizeOf76, v53 := Try.zeroValue76, t131 := Try.underlying71,
  a131 := Try.isAgg71, z131 := Try.sizeOf71, v131 := Try.zeroValue71, t182 := Try.underlying66, a182 := Try.isAgg66,
  z182 := Try.sizeOf66, v182 := Try.zeroValue66, t183 := Try.underlying67, a183 := Try.isAgg67, z183 := Try.sizeOf67,
  v183 := Try.zeroValue67, t218 := Try.underlying77, a218 := Try.isAgg77, z218 := Try.sizeOf77, v218 := Try.zeroValue77,
  t222 := Try.underlying81, a222 := Try.isAgg81, z222 := Try.sizeOf81, v222 := Try.zeroValue81,
  t228 := Try.underlying83, a228 := Try.isAgg83, z228 := Try.sizeOf83, v228 := Try.zeroValue83,
  t229 := Try.underlying84, a229 := Try.isAgg84, z229 := Try.sizeOf84, v229 := Try.zeroValue84 }
end Go.Proofs
namespace Go.V
open Go
open Go.Proofs
theorem sort_calls (b off c : Nat) (zs : List Int) (w : World) (hH : Go.Sort.Holds (Value.int .i64) w b off zs.toArray) (hb : b < w.heap.size) (hl : zs.length < 4611686018427387904) :
    Calls PE.P 42 #[.slice (some ⟨b, off, none⟩) zs.length c] w fun e w' => e = .returned (.tuple #[]) ∧ ∃ q os, w' = Go.Sort.grow ((w.drewN q).setCells b off ((sortI zs).map (Value.int .i64))) os := by
  have h := calls_of_every_depth fun D => AnyS.slices_Sort_int_alone laysSort D b off c zs w hH hb hl
  exact h.mono fun e w' ⟨he, q, os, hw⟩ => ⟨he, q, os, by rw [hw, Lib.sorted_world _ w b off q _ _ os hH (by simp)]; rfl⟩
theorem sort_none (p : Option Addr) (c : Nat) (w : World) : Calls PE.P 42 #[.slice p 0 c] w fun e w' => e = .returned (.tuple #[]) ∧ w' = w :=
  calls_of_every_depth fun D => AnyS.slices_Sort_int_none_alone laysSort D p c w

theorem rc_ints {w : World} {St : Bool → Nat → Prop} {ι : Nat → Option Value} : ∀ (l : List Int) {ds : List Value}, RC PE w St ι (l.map fun x => (.int .i64 x : A PU)) ds [] → ds = l.map (Value.int .i64)
  | [], ds, h => by cases h; rfl
  | x :: l, ds, h => by
    rw [List.map_cons] at h
    cases h with
    | int h => rw [rc_ints l h]; rfl
theorem rc_of_ints {w : World} {St : Bool → Nat → Prop} {ι : Nat → Option Value} : ∀ (l : List Int), RC PE w St ι (l.map fun x => (.int .i64 x : A PU)) (l.map (Value.int .i64)) []
  | [] => .nil
  | x :: l => .int (rc_of_ints l)

theorem hand42 (l : List Int) (K : A PU → List (AObj PU) → Prop) (h : l.length < 4611686018427387904 ∧ K (.tup []) [.lst 3 (sortI l)]) : RowSound PE 42 [.own 0] [.lst 3 l] K := by
  have hpr : memN 42 PE.procs = true := by kernel_rfl
  refine RowSound.of_fn (by rfl) fun _ => ⟨fun hp => (by rw [hpr] at hp; cases hp), fun _ => ⟨⟨_, laysSort.f189, by kernel_rfl, by kernel_rfl⟩, fun w St ι vs hvs hH hout => ?_⟩⟩
  obtain ⟨vs⟩ := vs
  cases vs with
  | nil => exact hvs.elim
  | cons v vs =>
  cases vs with
  | cons _ _ => exact hvs.2.elim
  | nil =>
  have hv : RV PE w St ι (.own 0) v := hvs.1.resolve_left (by intro e; cases e)
  obtain ⟨a', L, C, rfl, hι⟩ := RV.own_inv hv
  have h0 : RO PE w St ι (.lst 3 l) (ι 0) := hH.obj 0
  have hlen : (sortI l).length = l.length := by unfold sortI; simp
  have live : ∀ (x : List (PU 3)) n, isLive (nthO [(.lst 3 x : AObj PU)] n) = true → n = 0 := by
    intro x n hn
    cases n with
    | zero => rfl
    | succ n => simp [nthO, isLive] at hn
  rcases h0 with ⟨⟨a0, e⟩, hl⟩ | ⟨B, off, C', ds, e, h1, h2, h3, h4, h5⟩
  · rw [hι] at e
    simp only [Option.some.injEq, Value.slice.injEq] at e
    obtain ⟨rfl, rfl, rfl⟩ := e
    have hl' : l = [] := hl
    subst hl'
    refine (sort_none a' 0 w).mono ?_
    rintro e w' ⟨rfl, rfl⟩
    have hs : sortI [] = [] := by unfold sortI; simp
    rw [hs] at h
    exact ⟨_, _, _, ι, St, rfl, h.2, ⟨#[], rfl, trivial⟩, hH, hout, fun _ _ => rfl, Fr.refl _ _, fun B hB => .inl hB, fun g B hB => .inl hB⟩
  · rw [hι] at e
    simp only [Option.some.injEq, Value.slice.injEq] at e
    obtain ⟨rfl, rfl, rfl⟩ := e
    have hds : ds = l.map (Value.int .i64) := rc_ints l h1
    subst hds
    have hl4 : l.length ≤ C' + 1 := h4
    have hB : blkO (ι 0) = some B := by rw [hι]; rfl
    have hsz : PE.sz 3 = 1 := by kernel_rfl
    have hold : Go.Sort.Holds (Value.int .i64) w B off l.toArray := by
      intro j hj
      have hj' : j < l.length := by simpa using hj
      refine ⟨?_, (h3 j (by rw [hsz]; omega)).2⟩
      refine h2 j _ ?_
      simp [hj']
    refine (sort_calls B off (C' + 1) l w hold h5 h.1).mono ?_
    rintro e w' ⟨rfl, q, os, rfl⟩
    have cellg : ∀ (W : World) (x : Addr) v, W.cell? x = some v → (Go.Sort.grow W os).cell? x = some v := by
      intro W x v hx
      simp only [World.cell?, Go.Sort.grow] at hx ⊢
      cases hb : W.heap[x.block]? with
      | none => rw [hb] at hx; simp at hx
      | some o => rw [Array.getElem?_append_left (Array.getElem?_eq_some_iff.1 hb).1, hb]; rw [hb] at hx; exact hx
    have frozg : ∀ (W : World) (x : Addr), x.block < W.heap.size → (Go.Sort.grow W os).frozen? x = W.frozen? x := by
      intro W x hx
      simp only [World.frozen?, Go.Sort.grow]
      rw [Array.getElem?_append_left hx]
    have hsame : ∀ b, b < w.heap.size → b ≠ B → (Go.Sort.grow ((w.drewN q).setCells B off ((sortI l).map (Value.int .i64))) os).heap[b]? = w.heap[b]? := by
      intro b hb hne
      simp only [Go.Sort.grow]
      rw [Array.getElem?_append_left (by rw [size_setCells]; exact hb), heap_setCells B _ _ _ b hne]
      rfl
    have hsz' : w.heap.size ≤ (Go.Sort.grow ((w.drewN q).setCells B off ((sortI l).map (Value.int .i64))) os).heap.size := by
      simp only [Go.Sort.grow, Array.size_append, size_setCells]
      exact Nat.le_add_right _ _
    have hr : (Go.Sort.grow ((w.drewN q).setCells B off ((sortI l).map (Value.int .i64))) os).rangeAt B off ((sortI l).map (Value.int .i64)) := by
      have := range_splice (w := w.drewN q) (B := B) (off := off) (k := 0) (cs := l.map (Value.int .i64)) (ds := (sortI l).map (Value.int .i64)) h2 (by simp [hlen])
      simp only [List.take_zero, List.nil_append, Nat.add_zero, Nat.zero_add] at this
      rw [List.drop_of_length_le (by simp [hlen]), List.append_nil] at this
      exact fun j v hj => cellg _ _ _ (this j v hj)
    have hT : (Go.Sort.grow ((w.drewN q).setCells B off ((sortI l).map (Value.int .i64))) os).there B off ((C' + 1) * PE.sz 3) := by
      have := there_setCells (w := w.drewN q) (B := B) (B' := B) (o := off) (ds := (sortI l).map (Value.int .i64)) h3
      intro j hj
      obtain ⟨t1, t2⟩ := this j hj
      refine ⟨?_, by rw [frozg _ _ (by rw [size_setCells]; exact h5)]; exact t2⟩
      obtain ⟨v, hv⟩ := Option.isSome_iff_exists.1 t1
      rw [cellg _ _ _ hv]; rfl
    refine ⟨.tup [], _, [.lst 3 (sortI l)], ι, St, rfl, h.2, ⟨#[], rfl, trivial⟩, ⟨fun n => ?_, fun n m B' h1 h2 _ _ => by rw [live _ n h1, live _ m h2], fun B' hB' => Nat.lt_of_lt_of_le (hH.stb B' hB') hsz', fun n B' hn hB' => ?_, hH.sup⟩, hout, fun _ _ => rfl,
      ⟨hsz', fun b hb hn => hsame b hb fun e => hn (e ▸ ⟨0, rfl, hB⟩), ?_, ?_, ?_⟩, fun B' ⟨n, hn, hB'⟩ => .inl ?_, fun g B' hB' => .inl hB'⟩
    · cases n with
      | zero =>
        show RO PE _ St ι (.lst 3 (sortI l)) (ι 0)
        refine .inr ⟨B, off, C', (sortI l).map (Value.int .i64), ?_, rc_of_ints (sortI l), hr, hT, ?_, Nat.lt_of_lt_of_le h5 hsz'⟩
        · rw [hι]; show some (Value.slice _ _ _) = some (Value.slice _ (sortI l).length _); rw [hlen]; rfl
        · show (sortI l).length ≤ _; rw [hlen]; exact hl4
      | succ n => exact trivial
    · obtain rfl := live _ n hn
      exact hH.apt 0 B' rfl hB'
    · exact (out_setCells B _ off (w.drewN q)).1
    · exact (out_setCells B _ off (w.drewN q)).2.1
    · exact (out_setCells B _ off (w.drewN q)).2.2
    · obtain rfl := live _ n hn
      exact ⟨0, rfl, hB'⟩
end Go.V
