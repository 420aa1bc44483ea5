import Derived.Test.YtilnpbcodachoaaVC15F
import Derived.Test.YtilnpbcodachoaaProg
set_option linter.unusedVariables false
namespace Go.V
open Go
def PX : Nat → (α : Type) × α
  | 3 => ⟨Int, (0 : Int)⟩
  | 4 => ⟨Bool, false⟩
  | 5 => ⟨Int, (0 : Int)⟩
  | 9 => ⟨ByteArray, ByteArray.empty⟩
  | 22 => ⟨(List Int), ([] : List Int)⟩
  | 24 => ⟨S23, (S23.mk ([] : List Int) ([] : List Int))⟩
  | 25 => ⟨Int, (0 : Int)⟩
  | 27 => ⟨S26, (S26.mk (0 : Int) (0 : Int))⟩
  | 30 => ⟨Int, (0 : Int)⟩
  | 46 => ⟨Int, (0 : Int)⟩
  | 54 => ⟨Unit, ()⟩
  | 56 => ⟨Unit, ()⟩
  | 57 => ⟨Unit, ()⟩
  | 63 => ⟨Int, (0 : Int)⟩
  | 64 => ⟨Unit, ()⟩
  | _ => ⟨Unit, ()⟩
def PU (c : Nat) : Type := (PX c).1
def PEnc : (c : Nat) → PU c → A PU
  | 3, (x : Int) => .int .i64 x
  | 4, (x : Bool) => .bool x
  | 5, (x : Int) => .int .u8 x
  | 9, (x : ByteArray) => .str x
  | 22, (x : (List Int)) => .ro false 3 x
  | 24, (x : S23) => .agg [.ro false 3 x.f0, .ro false 3 x.f1]
  | 25, (x : Int) => .int .i64 x
  | 27, (x : S26) => .agg [.int .i64 x.f0, .int .i64 x.f1]
  | 30, (x : Int) => .int .i64 x
  | 46, (x : Int) => .int .u8 x
  | 54, (x : Unit) => .nilf
  | 56, (x : Unit) => .nilf
  | 57, (x : Unit) => .nilf
  | 63, (x : Int) => .int .u64 x
  | 64, (x : Unit) => .nilf
  | _, _ => .agg []
def PDec : (c : Nat) → A PU → Option (PU c)
  | 3, a => (dInt .i64 a).bind fun y1 => some y1
  | 4, a => (dBool a).bind fun y1 => some y1
  | 5, a => (dInt .u8 a).bind fun y1 => some y1
  | 9, a => (dStr a).bind fun y1 => some y1
  | 22, a => (dRo 3 a).bind fun y1 => some y1
  | 24, a => (dAgg a).bind fun l1 => (dCons l1).bind fun p2 => (dRo 3 p2.1).bind fun y3 => (dCons p2.2).bind fun p4 => (dRo 3 p4.1).bind fun y5 => (dEnd p4.2).bind fun _ => some (S23.mk y3 y5)
  | 25, a => (dInt .i64 a).bind fun y1 => some y1
  | 27, a => (dAgg a).bind fun l1 => (dCons l1).bind fun p2 => (dInt .i64 p2.1).bind fun y3 => (dCons p2.2).bind fun p4 => (dInt .i64 p4.1).bind fun y5 => (dEnd p4.2).bind fun _ => some (S26.mk y3 y5)
  | 30, a => (dInt .i64 a).bind fun y1 => some y1
  | 46, a => (dInt .u8 a).bind fun y1 => some y1
  | 54, a => (dNilf a).bind fun y1 => some y1
  | 56, a => (dNilf a).bind fun y1 => some y1
  | 57, a => (dNilf a).bind fun y1 => some y1
  | 63, a => (dInt .u64 a).bind fun y1 => some y1
  | 64, a => (dNilf a).bind fun y1 => some y1
  | _, _ => .none
def PDfl (c : Nat) : PU c := (PX c).2
def PTys : List Row := [⟨3, .int .i64, 1, 8⟩,
  ⟨4, .bool, 1, 1⟩,
  ⟨5, .int .u8, 1, 1⟩,
  ⟨9, .str, 1, 16⟩,
  ⟨22, .sl 3, 1, 24⟩,
  ⟨24, .st [(22, 0), (22, 1)], 2, 48⟩,
  ⟨25, .int .i64, 1, 8⟩,
  ⟨27, .st [(25, 0), (3, 1)], 2, 16⟩,
  ⟨30, .int .i64, 1, 8⟩,
  ⟨46, .int .u8, 1, 1⟩,
  ⟨54, .func, 1, 8⟩,
  ⟨56, .func, 1, 8⟩,
  ⟨57, .func, 1, 8⟩,
  ⟨63, .int .u64, 1, 8⟩,
  ⟨64, .func, 1, 8⟩]
def PCuts : List (FuncId × Nat × List Nat) := [(29, 3, [3, 6, 7, 8]), (29, 7, [3, 6, 7, 8]), (30, 3, [0, 3, 5]), (36, 4, [0, 1, 12, 13]), (11, 14, [4, 6, 7, 9]), (11, 5, [4, 6, 7, 8, 9, 28]), (31, 2, [0, 1, 5]), (32, 3, [0, 1, 5, 6]), (37, 2, [0, 3]), (19, 4, [1, 3]), (33, 3, [0, 1, 5, 6]), (12, 16, [4, 9, 10]), (12, 8, [4, 6, 7, 8, 9, 10, 41]), (34, 4, [0, 1, 5]), (3, 8, [2, 5, 6, 10, 11]), (3, 12, [2, 5, 6, 10, 12]), (18, 3, [1, 3, 4]), (17, 4, [0, 1, 5]), (45, 2, [0, 1, 7, 8]), (22, 3, [1, 2, 5, 6]), (4, 8, [1, 2, 3, 7, 8, 9, 10, 11]), (4, 12, [1, 2, 3, 7, 10, 12]), (5, 11, [2, 3, 4, 9, 11]), (5, 14, [2, 3, 4, 9, 11, 12]), (5, 16, [2, 3, 4, 9, 11, 12]), (5, 15, [2, 3, 4, 9, 11, 12]), (5, 8, [2, 3, 4, 9]), (5, 9, []), (6, 10, [2, 8, 9, 10, 11, 12, 13]), (40, 3, [0, 2, 3, 6, 9, 10, 11]), (48, 1, [0, 1, 3]), (27, 5, [1, 2, 3, 7, 8]), (27, 9, [1, 2, 3, 7, 8, 9, 10]), (8, 7, [1, 2, 3, 7, 8, 9, 10]), (8, 11, [1, 2, 3, 7, 8, 9, 10]), (8, 2, [])]
def PProcs : List FuncId := [40, 42, 43, 48]
def PLoops : List (FuncId × Nat × List Nat) := [(26, 7, [6, 7])]
noncomputable def PE : Env PU where
  P := Go.Proofs.Try.prog
  tys := PTys
  enc := PEnc
  dec := PDec
  dflt := PDfl
  eqb := fun _ _ _ => false
  ofBytes := fun _ _ => .none
  toBytes := fun _ _ => .none
  cuts := PCuts
  procs := PProcs
  loops := PLoops
theorem PEncOk (c : Nat) (x : PU c) : closed (PEnc c x) = true ∧ size PE.sz (PEnc c x) = PE.sz c := by
  unfold PEnc
  split
  · exact ⟨rfl, rfl⟩
  · exact ⟨rfl, rfl⟩
  · exact ⟨rfl, rfl⟩
  · exact ⟨rfl, rfl⟩
  · exact ⟨rfl, rfl⟩
  · exact ⟨rfl, rfl⟩
  · exact ⟨rfl, rfl⟩
  · exact ⟨rfl, rfl⟩
  · exact ⟨rfl, rfl⟩
  · exact ⟨rfl, rfl⟩
  · exact ⟨rfl, rfl⟩
  · exact ⟨rfl, rfl⟩
  · exact ⟨rfl, rfl⟩
  · exact ⟨rfl, rfl⟩
  · exact ⟨rfl, rfl⟩
  · rename_i h3 h4 h5 h9 h22 h24 h25 h27 h30 h46 h54 h56 h57 h63 h64
    refine ⟨rfl, ?_⟩
    show 0 = _
    unfold Env.sz
    have hn : rowOf c PE.tys = .none := by
      refine rowOf_none ?_
      intro r hr
      simp only [PE, PTys, List.mem_cons, List.not_mem_nil, or_false] at hr
      rcases hr with rfl | rfl | rfl | rfl | rfl | rfl | rfl | rfl | rfl | rfl | rfl | rfl | rfl | rfl | rfl <;> intro e <;> subst e
      · exact h3 _ rfl HEq.rfl
      · exact h4 _ rfl HEq.rfl
      · exact h5 _ rfl HEq.rfl
      · exact h9 _ rfl HEq.rfl
      · exact h22 _ rfl HEq.rfl
      · exact h24 _ rfl HEq.rfl
      · exact h25 _ rfl HEq.rfl
      · exact h27 _ rfl HEq.rfl
      · exact h30 _ rfl HEq.rfl
      · exact h46 _ rfl HEq.rfl
      · exact h54 _ rfl HEq.rfl
      · exact h56 _ rfl HEq.rfl
      · exact h57 _ rfl HEq.rfl
      · exact h63 _ rfl HEq.rfl
      · exact h64 _ rfl HEq.rfl
    rw [hn]
theorem PDecOk (c : Nat) (a : A PU) (x : PU c) (h : PDec c a = some x) : PEnc c x = a := by
  unfold PDec at h
  split at h
  · obtain ⟨y1, e1, h1⟩ := Option.bind_eq_some_iff.1 h
    obtain rfl : a = .int .i64 y1 := dInt_ok e1
    cases h1; rfl
  · obtain ⟨y1, e1, h1⟩ := Option.bind_eq_some_iff.1 h
    obtain rfl : a = .bool y1 := dBool_ok e1
    cases h1; rfl
  · obtain ⟨y1, e1, h1⟩ := Option.bind_eq_some_iff.1 h
    obtain rfl : a = .int .u8 y1 := dInt_ok e1
    cases h1; rfl
  · obtain ⟨y1, e1, h1⟩ := Option.bind_eq_some_iff.1 h
    obtain rfl : a = .str y1 := dStr_ok e1
    cases h1; rfl
  · obtain ⟨y1, e1, h1⟩ := Option.bind_eq_some_iff.1 h
    obtain rfl : a = .ro false 3 y1 := dRo_ok e1
    cases h1; rfl
  · obtain ⟨l1, e1, h1⟩ := Option.bind_eq_some_iff.1 h
    obtain rfl : a = .agg l1 := dAgg_ok e1
    obtain ⟨⟨q2, r2⟩, e2, h2⟩ := Option.bind_eq_some_iff.1 h1
    obtain rfl : l1 = q2 :: r2 := dCons_ok e2
    obtain ⟨y3, e3, h3⟩ := Option.bind_eq_some_iff.1 h2
    obtain rfl : q2 = .ro false 3 y3 := dRo_ok e3
    obtain ⟨⟨q4, r4⟩, e4, h4⟩ := Option.bind_eq_some_iff.1 h3
    obtain rfl : r2 = q4 :: r4 := dCons_ok e4
    obtain ⟨y5, e5, h5⟩ := Option.bind_eq_some_iff.1 h4
    obtain rfl : q4 = .ro false 3 y5 := dRo_ok e5
    obtain ⟨_, e6, h6⟩ := Option.bind_eq_some_iff.1 h5
    obtain rfl : r4 = [] := dEnd_ok e6
    cases h6; rfl
  · obtain ⟨y1, e1, h1⟩ := Option.bind_eq_some_iff.1 h
    obtain rfl : a = .int .i64 y1 := dInt_ok e1
    cases h1; rfl
  · obtain ⟨l1, e1, h1⟩ := Option.bind_eq_some_iff.1 h
    obtain rfl : a = .agg l1 := dAgg_ok e1
    obtain ⟨⟨q2, r2⟩, e2, h2⟩ := Option.bind_eq_some_iff.1 h1
    obtain rfl : l1 = q2 :: r2 := dCons_ok e2
    obtain ⟨y3, e3, h3⟩ := Option.bind_eq_some_iff.1 h2
    obtain rfl : q2 = .int .i64 y3 := dInt_ok e3
    obtain ⟨⟨q4, r4⟩, e4, h4⟩ := Option.bind_eq_some_iff.1 h3
    obtain rfl : r2 = q4 :: r4 := dCons_ok e4
    obtain ⟨y5, e5, h5⟩ := Option.bind_eq_some_iff.1 h4
    obtain rfl : q4 = .int .i64 y5 := dInt_ok e5
    obtain ⟨_, e6, h6⟩ := Option.bind_eq_some_iff.1 h5
    obtain rfl : r4 = [] := dEnd_ok e6
    cases h6; rfl
  · obtain ⟨y1, e1, h1⟩ := Option.bind_eq_some_iff.1 h
    obtain rfl : a = .int .i64 y1 := dInt_ok e1
    cases h1; rfl
  · obtain ⟨y1, e1, h1⟩ := Option.bind_eq_some_iff.1 h
    obtain rfl : a = .int .u8 y1 := dInt_ok e1
    cases h1; rfl
  · obtain ⟨y1, e1, h1⟩ := Option.bind_eq_some_iff.1 h
    obtain rfl : a = .nilf := dNilf_ok e1
    cases h1; rfl
  · obtain ⟨y1, e1, h1⟩ := Option.bind_eq_some_iff.1 h
    obtain rfl : a = .nilf := dNilf_ok e1
    cases h1; rfl
  · obtain ⟨y1, e1, h1⟩ := Option.bind_eq_some_iff.1 h
    obtain rfl : a = .nilf := dNilf_ok e1
    cases h1; rfl
  · obtain ⟨y1, e1, h1⟩ := Option.bind_eq_some_iff.1 h
    obtain rfl : a = .int .u64 y1 := dInt_ok e1
    cases h1; rfl
  · obtain ⟨y1, e1, h1⟩ := Option.bind_eq_some_iff.1 h
    obtain rfl : a = .nilf := dNilf_ok e1
    cases h1; rfl
  · cases h
theorem PEok : EnvOk2 PE := envOk_of PE ⟨fun c x => (PEncOk c x).1, fun c x => (PEncOk c x).2, PDecOk⟩ (by kernel_rfl) (by kernel_rfl)
end Go.V
