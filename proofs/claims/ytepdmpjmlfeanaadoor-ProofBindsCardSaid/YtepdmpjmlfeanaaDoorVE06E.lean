import Derived.Test.YtepdmpjmlfeanaaDoorVE06F
import Derived.Test.YtepdmpjmlfeanaaDoorProg
set_option linter.unusedVariables false
namespace Go.V
open Go
def PX : Nat → (α : Type) × α
  | 3 => ⟨Int, (0 : Int)⟩
  | 4 => ⟨Bool, false⟩
  | 5 => ⟨Int, (0 : Int)⟩
  | 9 => ⟨ByteArray, ByteArray.empty⟩
  | 23 => ⟨(List Int), (List.replicate 32 (0 : Int))⟩
  | 25 => ⟨S_api_Claim, (S_api_Claim.mk false (List.replicate 32 (0 : Int)))⟩
  | 26 => ⟨(List (List Int)), ([] : List (List Int))⟩
  | 28 => ⟨S_api_Proof, (S_api_Proof.mk ([] : List (List Int)) false (List.replicate 32 (0 : Int)) (List.replicate 32 (0 : Int)))⟩
  | 30 => ⟨Int, (0 : Int)⟩
  | 35 => ⟨(List Int), ([] : List Int)⟩
  | 50 => ⟨S_proof_said, (S_proof_said.mk (0 : Int) (List.replicate 32 (0 : Int)) (S_api_Claim.mk false (List.replicate 32 (0 : Int))) (S_api_Proof.mk ([] : List (List Int)) false (List.replicate 32 (0 : Int)) (List.replicate 32 (0 : Int))))⟩
  | 56 => ⟨(List (List Int)), ([] : List (List Int))⟩
  | 58 => ⟨Unit, ()⟩
  | 59 => ⟨Unit, ()⟩
  | 82 => ⟨Unit, ()⟩
  | 84 => ⟨Unit, ()⟩
  | 85 => ⟨Unit, ()⟩
  | 88 => ⟨Unit, ()⟩
  | 104 => ⟨Int, (0 : Int)⟩
  | 105 => ⟨(List Int), (List.replicate 8 (0 : Int))⟩
  | 110 => ⟨Unit, ()⟩
  | 111 => ⟨(List Int), (List.replicate 64 (0 : Int))⟩
  | 113 => ⟨S_sha_Hash, (S_sha_Hash.mk (List.replicate 8 (0 : Int)) (List.replicate 64 (0 : Int)) (0 : Int))⟩
  | 114 => ⟨(List Int), (List.replicate 72 (0 : Int))⟩
  | 115 => ⟨Int, (0 : Int)⟩
  | 136 => ⟨(List Int), (List.replicate 64 (0 : Int))⟩
  | 137 => ⟨Int, (0 : Int)⟩
  | _ => ⟨Unit, ()⟩
def PU (c : Nat) : Type := (PX c).1
def PEnc : (c : Nat) → PU c → A PU
  | 3, (x : Int) => .int .i64 x
  | 4, (x : Bool) => .bool x
  | 5, (x : Int) => .int .u8 x
  | 9, (x : ByteArray) => .str x
  | 23, (x : (List Int)) => .arr 5 32 x
  | 25, (x : S_api_Claim) => .agg [.bool x.f0, .arr 5 32 x.f1]
  | 26, (x : (List (List Int))) => .ro false 23 x
  | 28, (x : S_api_Proof) => .agg [.ro false 23 x.f0, .bool x.f1, .arr 5 32 x.f2, .arr 5 32 x.f3]
  | 30, (x : Int) => .int .i64 x
  | 35, (x : (List Int)) => .ro false 5 x
  | 50, (x : S_proof_said) => .agg [.int .i64 x.f0, .arr 5 32 x.f1, .agg [.bool x.f2.f0, .arr 5 32 x.f2.f1], .agg [.ro false 23 x.f3.f0, .bool x.f3.f1, .arr 5 32 x.f3.f2, .arr 5 32 x.f3.f3]]
  | 56, (x : (List (List Int))) => .ro false 35 x
  | 58, (x : Unit) => .nilf
  | 59, (x : Unit) => .nilf
  | 82, (x : Unit) => .nilf
  | 84, (x : Unit) => .nilf
  | 85, (x : Unit) => .nilf
  | 88, (x : Unit) => .nilp
  | 104, (x : Int) => .int .u32 x
  | 105, (x : (List Int)) => .arr 104 8 x
  | 110, (x : Unit) => .nilf
  | 111, (x : (List Int)) => .arr 5 64 x
  | 113, (x : S_sha_Hash) => .agg [.arr 104 8 x.f0, .arr 5 64 x.f1, .int .i64 x.f2]
  | 114, (x : (List Int)) => .arr 5 72 x
  | 115, (x : Int) => .int .u64 x
  | 136, (x : (List Int)) => .arr 104 64 x
  | 137, (x : Int) => .int .u64 x
  | _, _ => .agg []
def PDec : (c : Nat) → A PU → Option (PU c)
  | 3, a => (dInt .i64 a).bind fun y1 => some y1
  | 4, a => (dBool a).bind fun y1 => some y1
  | 5, a => (dInt .u8 a).bind fun y1 => some y1
  | 9, a => (dStr a).bind fun y1 => some y1
  | 23, a => (dArr 5 32 a).bind fun y1 => some y1
  | 25, a => (dAgg a).bind fun l1 => (dCons l1).bind fun p2 => (dBool p2.1).bind fun y3 => (dCons p2.2).bind fun p4 => (dArr 5 32 p4.1).bind fun y5 => (dEnd p4.2).bind fun _ => some (S_api_Claim.mk y3 y5)
  | 26, a => (dRo 23 a).bind fun y1 => some y1
  | 28, a => (dAgg a).bind fun l1 => (dCons l1).bind fun p2 => (dRo 23 p2.1).bind fun y3 => (dCons p2.2).bind fun p4 => (dBool p4.1).bind fun y5 => (dCons p4.2).bind fun p6 => (dArr 5 32 p6.1).bind fun y7 => (dCons p6.2).bind fun p8 => (dArr 5 32 p8.1).bind fun y9 => (dEnd p8.2).bind fun _ => some (S_api_Proof.mk y3 y5 y7 y9)
  | 30, a => (dInt .i64 a).bind fun y1 => some y1
  | 35, a => (dRo 5 a).bind fun y1 => some y1
  | 50, a => (dAgg a).bind fun l1 => (dCons l1).bind fun p2 => (dInt .i64 p2.1).bind fun y3 => (dCons p2.2).bind fun p4 => (dArr 5 32 p4.1).bind fun y5 => (dCons p4.2).bind fun p6 => (dAgg p6.1).bind fun l7 => (dCons l7).bind fun p8 => (dBool p8.1).bind fun y9 => (dCons p8.2).bind fun p10 => (dArr 5 32 p10.1).bind fun y11 => (dEnd p10.2).bind fun _ => (dCons p6.2).bind fun p12 => (dAgg p12.1).bind fun l13 => (dCons l13).bind fun p14 => (dRo 23 p14.1).bind fun y15 => (dCons p14.2).bind fun p16 => (dBool p16.1).bind fun y17 => (dCons p16.2).bind fun p18 => (dArr 5 32 p18.1).bind fun y19 => (dCons p18.2).bind fun p20 => (dArr 5 32 p20.1).bind fun y21 => (dEnd p20.2).bind fun _ => (dEnd p12.2).bind fun _ => some (S_proof_said.mk y3 y5 (S_api_Claim.mk y9 y11) (S_api_Proof.mk y15 y17 y19 y21))
  | 56, a => (dRo 35 a).bind fun y1 => some y1
  | 58, a => (dNilf a).bind fun y1 => some y1
  | 59, a => (dNilf a).bind fun y1 => some y1
  | 82, a => (dNilf a).bind fun y1 => some y1
  | 84, a => (dNilf a).bind fun y1 => some y1
  | 85, a => (dNilf a).bind fun y1 => some y1
  | 88, a => (dNilp a).bind fun y1 => some y1
  | 104, a => (dInt .u32 a).bind fun y1 => some y1
  | 105, a => (dArr 104 8 a).bind fun y1 => some y1
  | 110, a => (dNilf a).bind fun y1 => some y1
  | 111, a => (dArr 5 64 a).bind fun y1 => some y1
  | 113, a => (dAgg a).bind fun l1 => (dCons l1).bind fun p2 => (dArr 104 8 p2.1).bind fun y3 => (dCons p2.2).bind fun p4 => (dArr 5 64 p4.1).bind fun y5 => (dCons p4.2).bind fun p6 => (dInt .i64 p6.1).bind fun y7 => (dEnd p6.2).bind fun _ => some (S_sha_Hash.mk y3 y5 y7)
  | 114, a => (dArr 5 72 a).bind fun y1 => some y1
  | 115, a => (dInt .u64 a).bind fun y1 => some y1
  | 136, a => (dArr 104 64 a).bind fun y1 => some y1
  | 137, a => (dInt .u64 a).bind fun y1 => some y1
  | _, _ => .none
def PDfl (c : Nat) : PU c := (PX c).2
def PTys : List Row := [⟨3, .int .i64, 1, 8⟩,
  ⟨4, .bool, 1, 1⟩,
  ⟨5, .int .u8, 1, 1⟩,
  ⟨9, .str, 1, 16⟩,
  ⟨23, .arr 32 5, 32, 32⟩,
  ⟨25, .st [(4, 0), (23, 1)], 33, 33⟩,
  ⟨26, .sl 23, 1, 24⟩,
  ⟨28, .st [(26, 0), (4, 1), (23, 2), (23, 34)], 66, 96⟩,
  ⟨30, .int .i64, 1, 8⟩,
  ⟨35, .sl 5, 1, 24⟩,
  ⟨50, .st [(3, 0), (23, 1), (25, 33), (28, 66)], 132, 176⟩,
  ⟨56, .sl 35, 1, 24⟩,
  ⟨58, .func, 1, 8⟩,
  ⟨59, .func, 1, 8⟩,
  ⟨82, .func, 1, 8⟩,
  ⟨84, .func, 1, 8⟩,
  ⟨85, .func, 1, 8⟩,
  ⟨88, .ptr 113, 1, 8⟩,
  ⟨104, .int .u32, 1, 4⟩,
  ⟨105, .arr 8 104, 8, 32⟩,
  ⟨110, .func, 1, 8⟩,
  ⟨111, .arr 64 5, 64, 64⟩,
  ⟨113, .st [(105, 0), (111, 8), (3, 72)], 73, 104⟩,
  ⟨114, .arr 72 5, 72, 72⟩,
  ⟨115, .int .u64, 1, 8⟩,
  ⟨136, .arr 64 104, 64, 256⟩,
  ⟨137, .int .u64, 1, 8⟩]
def PCuts : List (FuncId × Nat × List Nat) := [(19, 2, [2, 3, 7]), (44, 4, [1, 3]), (56, 3, [5, 10, 11, 12]), (75, 2, [0, 2, 25]), (75, 14, [0, 9, 10, 11, 12, 13, 14, 15, 16, 140, 141]), (75, 23, [0, 210, 211]), (75, 11, [0, 2, 25]), (58, 3, [0, 1]), (59, 9, [0, 2, 3, 4, 5, 6, 22]), (59, 15, [2, 3, 4, 45]), (32, 4, [4, 5]), (74, 1, [0, 1, 3]), (74, 3, [0, 1, 3]), (29, 1, [0, 2, 3]), (30, 4, [0, 1, 12, 13]), (13, 14, [21, 22, 63, 64]), (45, 4, [0, 6, 7, 15, 16, 17]), (15, 5, [1, 2, 3, 4, 5, 8]), (15, 4, [1, 2, 3, 4, 5]), (15, 6, [3, 4, 5, 8, 11]), (5, 4, [0, 8, 9, 10, 11, 12, 13, 15, 16, 17]), (5, 5, [15, 16, 17]), (5, 6, [0, 15, 16, 17]), (5, 7, [0, 15, 16, 17, 18, 19]), (5, 8, [15, 16, 17, 18, 19, 20, 21])]
def PProcs : List FuncId := [27, 28, 29, 52, 53, 55, 57, 58, 59, 74, 75]
def PLoops : List (FuncId × Nat × List Nat) := [(21, 7, [2, 5]), (53, 3, [1, 2, 3]), (52, 2, [2])]
def PEqb : (c : Nat) → List (PU c) → List (PU c) → Bool
  | 3, x, y => eqLI x y
  | 4, x, y => eqLB x y
  | 5, x, y => eqLI x y
  | 9, x, y => eqLS x y
  | 30, x, y => eqLI x y
  | 104, x, y => eqLI x y
  | 115, x, y => eqLI x y
  | 137, x, y => eqLI x y
  | _, _, _ => false
def PToB : (c : Nat) → List (PU c) → Option ByteArray
  | 5, x => some (bytesOf x)
  | _, _ => .none
def POfB : (c : Nat) → ByteArray → Option (List (PU c))
  | 5, x => some (bytesTo x)
  | _, _ => .none
def PGlob : Nat → A PU
  | 1 => .rp false 136 [G_sha_keys] 0 []
  | _ => .none
noncomputable def PE : Env PU where
  P := Go.Proofs.Tryd.prog
  tys := PTys
  enc := PEnc
  dec := PDec
  dflt := PDfl
  eqb := PEqb
  ofBytes := POfB
  toBytes := PToB
  cuts := PCuts
  procs := PProcs
  loops := PLoops
  eqs := [23, 25]
  glob := PGlob
  lends := [58]
theorem PEncOk (c : Nat) (x : PU c) : closed (PEnc c x) = true ∧ size PE.sz (PEnc c x) = PE.sz c := by
  unfold PEnc
  split
  · exact ⟨rfl, rfl⟩
  · exact ⟨rfl, rfl⟩
  · exact ⟨rfl, rfl⟩
  · exact ⟨rfl, rfl⟩
  · exact ⟨rfl, rfl⟩
  · exact ⟨rfl, rfl⟩
  · exact ⟨rfl, rfl⟩
  · exact ⟨rfl, rfl⟩
  · exact ⟨rfl, rfl⟩
  · exact ⟨rfl, rfl⟩
  · exact ⟨rfl, rfl⟩
  · exact ⟨rfl, rfl⟩
  · exact ⟨rfl, rfl⟩
  · exact ⟨rfl, rfl⟩
  · exact ⟨rfl, rfl⟩
  · exact ⟨rfl, rfl⟩
  · exact ⟨rfl, rfl⟩
  · exact ⟨rfl, rfl⟩
  · exact ⟨rfl, rfl⟩
  · exact ⟨rfl, rfl⟩
  · exact ⟨rfl, rfl⟩
  · exact ⟨rfl, rfl⟩
  · exact ⟨rfl, rfl⟩
  · exact ⟨rfl, rfl⟩
  · exact ⟨rfl, rfl⟩
  · exact ⟨rfl, rfl⟩
  · exact ⟨rfl, rfl⟩
  · rename_i h3 h4 h5 h9 h23 h25 h26 h28 h30 h35 h50 h56 h58 h59 h82 h84 h85 h88 h104 h105 h110 h111 h113 h114 h115 h136 h137
    refine ⟨rfl, ?_⟩
    show 0 = _
    unfold Env.sz
    have hn : rowOf c PE.tys = .none := by
      refine rowOf_none ?_
      intro r hr
      simp only [PE, PTys, List.mem_cons, List.not_mem_nil, or_false] at hr
      rcases hr with rfl | rfl | rfl | rfl | rfl | rfl | rfl | rfl | rfl | rfl | rfl | rfl | rfl | rfl | rfl | rfl | rfl | rfl | rfl | rfl | rfl | rfl | rfl | rfl | rfl | rfl | rfl <;> intro e <;> subst e
      · exact h3 _ rfl HEq.rfl
      · exact h4 _ rfl HEq.rfl
      · exact h5 _ rfl HEq.rfl
      · exact h9 _ rfl HEq.rfl
      · exact h23 _ rfl HEq.rfl
      · exact h25 _ rfl HEq.rfl
      · exact h26 _ rfl HEq.rfl
      · exact h28 _ rfl HEq.rfl
      · exact h30 _ rfl HEq.rfl
      · exact h35 _ rfl HEq.rfl
      · exact h50 _ rfl HEq.rfl
      · exact h56 _ rfl HEq.rfl
      · exact h58 _ rfl HEq.rfl
      · exact h59 _ rfl HEq.rfl
      · exact h82 _ rfl HEq.rfl
      · exact h84 _ rfl HEq.rfl
      · exact h85 _ rfl HEq.rfl
      · exact h88 _ rfl HEq.rfl
      · exact h104 _ rfl HEq.rfl
      · exact h105 _ rfl HEq.rfl
      · exact h110 _ rfl HEq.rfl
      · exact h111 _ rfl HEq.rfl
      · exact h113 _ rfl HEq.rfl
      · exact h114 _ rfl HEq.rfl
      · exact h115 _ rfl HEq.rfl
      · exact h136 _ rfl HEq.rfl
      · exact h137 _ rfl HEq.rfl
    rw [hn]
theorem PDecOk (c : Nat) (a : A PU) (x : PU c) (h : PDec c a = some x) : PEnc c x = a := by
  unfold PDec at h
  split at h
  · obtain ⟨y1, e1, h1⟩ := Option.bind_eq_some_iff.1 h
    obtain rfl : a = .int .i64 y1 := dInt_ok e1
    cases h1; rfl
  · obtain ⟨y1, e1, h1⟩ := Option.bind_eq_some_iff.1 h
    obtain rfl : a = .bool y1 := dBool_ok e1
    cases h1; rfl
  · obtain ⟨y1, e1, h1⟩ := Option.bind_eq_some_iff.1 h
    obtain rfl : a = .int .u8 y1 := dInt_ok e1
    cases h1; rfl
  · obtain ⟨y1, e1, h1⟩ := Option.bind_eq_some_iff.1 h
    obtain rfl : a = .str y1 := dStr_ok e1
    cases h1; rfl
  · obtain ⟨y1, e1, h1⟩ := Option.bind_eq_some_iff.1 h
    obtain rfl : a = .arr 5 32 y1 := dArr_ok e1
    cases h1; rfl
  · obtain ⟨l1, e1, h1⟩ := Option.bind_eq_some_iff.1 h
    obtain rfl : a = .agg l1 := dAgg_ok e1
    obtain ⟨⟨q2, r2⟩, e2, h2⟩ := Option.bind_eq_some_iff.1 h1
    obtain rfl : l1 = q2 :: r2 := dCons_ok e2
    obtain ⟨y3, e3, h3⟩ := Option.bind_eq_some_iff.1 h2
    obtain rfl : q2 = .bool y3 := dBool_ok e3
    obtain ⟨⟨q4, r4⟩, e4, h4⟩ := Option.bind_eq_some_iff.1 h3
    obtain rfl : r2 = q4 :: r4 := dCons_ok e4
    obtain ⟨y5, e5, h5⟩ := Option.bind_eq_some_iff.1 h4
    obtain rfl : q4 = .arr 5 32 y5 := dArr_ok e5
    obtain ⟨_, e6, h6⟩ := Option.bind_eq_some_iff.1 h5
    obtain rfl : r4 = [] := dEnd_ok e6
    cases h6; rfl
  · obtain ⟨y1, e1, h1⟩ := Option.bind_eq_some_iff.1 h
    obtain rfl : a = .ro false 23 y1 := dRo_ok e1
    cases h1; rfl
  · obtain ⟨l1, e1, h1⟩ := Option.bind_eq_some_iff.1 h
    obtain rfl : a = .agg l1 := dAgg_ok e1
    obtain ⟨⟨q2, r2⟩, e2, h2⟩ := Option.bind_eq_some_iff.1 h1
    obtain rfl : l1 = q2 :: r2 := dCons_ok e2
    obtain ⟨y3, e3, h3⟩ := Option.bind_eq_some_iff.1 h2
    obtain rfl : q2 = .ro false 23 y3 := dRo_ok e3
    obtain ⟨⟨q4, r4⟩, e4, h4⟩ := Option.bind_eq_some_iff.1 h3
    obtain rfl : r2 = q4 :: r4 := dCons_ok e4
    obtain ⟨y5, e5, h5⟩ := Option.bind_eq_some_iff.1 h4
    obtain rfl : q4 = .bool y5 := dBool_ok e5
    obtain ⟨⟨q6, r6⟩, e6, h6⟩ := Option.bind_eq_some_iff.1 h5
    obtain rfl : r4 = q6 :: r6 := dCons_ok e6
    obtain ⟨y7, e7, h7⟩ := Option.bind_eq_some_iff.1 h6
    obtain rfl : q6 = .arr 5 32 y7 := dArr_ok e7
    obtain ⟨⟨q8, r8⟩, e8, h8⟩ := Option.bind_eq_some_iff.1 h7
    obtain rfl : r6 = q8 :: r8 := dCons_ok e8
    obtain ⟨y9, e9, h9⟩ := Option.bind_eq_some_iff.1 h8
    obtain rfl : q8 = .arr 5 32 y9 := dArr_ok e9
    obtain ⟨_, e10, h10⟩ := Option.bind_eq_some_iff.1 h9
    obtain rfl : r8 = [] := dEnd_ok e10
    cases h10; rfl
  · obtain ⟨y1, e1, h1⟩ := Option.bind_eq_some_iff.1 h
    obtain rfl : a = .int .i64 y1 := dInt_ok e1
    cases h1; rfl
  · obtain ⟨y1, e1, h1⟩ := Option.bind_eq_some_iff.1 h
    obtain rfl : a = .ro false 5 y1 := dRo_ok e1
    cases h1; rfl
  · obtain ⟨l1, e1, h1⟩ := Option.bind_eq_some_iff.1 h
    obtain rfl : a = .agg l1 := dAgg_ok e1
    obtain ⟨⟨q2, r2⟩, e2, h2⟩ := Option.bind_eq_some_iff.1 h1
    obtain rfl : l1 = q2 :: r2 := dCons_ok e2
    obtain ⟨y3, e3, h3⟩ := Option.bind_eq_some_iff.1 h2
    obtain rfl : q2 = .int .i64 y3 := dInt_ok e3
    obtain ⟨⟨q4, r4⟩, e4, h4⟩ := Option.bind_eq_some_iff.1 h3
    obtain rfl : r2 = q4 :: r4 := dCons_ok e4
    obtain ⟨y5, e5, h5⟩ := Option.bind_eq_some_iff.1 h4
    obtain rfl : q4 = .arr 5 32 y5 := dArr_ok e5
    obtain ⟨⟨q6, r6⟩, e6, h6⟩ := Option.bind_eq_some_iff.1 h5
    obtain rfl : r4 = q6 :: r6 := dCons_ok e6
    obtain ⟨l7, e7, h7⟩ := Option.bind_eq_some_iff.1 h6
    obtain rfl : q6 = .agg l7 := dAgg_ok e7
    obtain ⟨⟨q8, r8⟩, e8, h8⟩ := Option.bind_eq_some_iff.1 h7
    obtain rfl : l7 = q8 :: r8 := dCons_ok e8
    obtain ⟨y9, e9, h9⟩ := Option.bind_eq_some_iff.1 h8
    obtain rfl : q8 = .bool y9 := dBool_ok e9
    obtain ⟨⟨q10, r10⟩, e10, h10⟩ := Option.bind_eq_some_iff.1 h9
    obtain rfl : r8 = q10 :: r10 := dCons_ok e10
    obtain ⟨y11, e11, h11⟩ := Option.bind_eq_some_iff.1 h10
    obtain rfl : q10 = .arr 5 32 y11 := dArr_ok e11
    obtain ⟨_, e12, h12⟩ := Option.bind_eq_some_iff.1 h11
    obtain rfl : r10 = [] := dEnd_ok e12
    obtain ⟨⟨q12, r12⟩, e13, h13⟩ := Option.bind_eq_some_iff.1 h12
    obtain rfl : r6 = q12 :: r12 := dCons_ok e13
    obtain ⟨l13, e14, h14⟩ := Option.bind_eq_some_iff.1 h13
    obtain rfl : q12 = .agg l13 := dAgg_ok e14
    obtain ⟨⟨q14, r14⟩, e15, h15⟩ := Option.bind_eq_some_iff.1 h14
    obtain rfl : l13 = q14 :: r14 := dCons_ok e15
    obtain ⟨y15, e16, h16⟩ := Option.bind_eq_some_iff.1 h15
    obtain rfl : q14 = .ro false 23 y15 := dRo_ok e16
    obtain ⟨⟨q16, r16⟩, e17, h17⟩ := Option.bind_eq_some_iff.1 h16
    obtain rfl : r14 = q16 :: r16 := dCons_ok e17
    obtain ⟨y17, e18, h18⟩ := Option.bind_eq_some_iff.1 h17
    obtain rfl : q16 = .bool y17 := dBool_ok e18
    obtain ⟨⟨q18, r18⟩, e19, h19⟩ := Option.bind_eq_some_iff.1 h18
    obtain rfl : r16 = q18 :: r18 := dCons_ok e19
    obtain ⟨y19, e20, h20⟩ := Option.bind_eq_some_iff.1 h19
    obtain rfl : q18 = .arr 5 32 y19 := dArr_ok e20
    obtain ⟨⟨q20, r20⟩, e21, h21⟩ := Option.bind_eq_some_iff.1 h20
    obtain rfl : r18 = q20 :: r20 := dCons_ok e21
    obtain ⟨y21, e22, h22⟩ := Option.bind_eq_some_iff.1 h21
    obtain rfl : q20 = .arr 5 32 y21 := dArr_ok e22
    obtain ⟨_, e23, h23⟩ := Option.bind_eq_some_iff.1 h22
    obtain rfl : r20 = [] := dEnd_ok e23
    obtain ⟨_, e24, h24⟩ := Option.bind_eq_some_iff.1 h23
    obtain rfl : r12 = [] := dEnd_ok e24
    cases h24; rfl
  · obtain ⟨y1, e1, h1⟩ := Option.bind_eq_some_iff.1 h
    obtain rfl : a = .ro false 35 y1 := dRo_ok e1
    cases h1; rfl
  · obtain ⟨y1, e1, h1⟩ := Option.bind_eq_some_iff.1 h
    obtain rfl : a = .nilf := dNilf_ok e1
    cases h1; rfl
  · obtain ⟨y1, e1, h1⟩ := Option.bind_eq_some_iff.1 h
    obtain rfl : a = .nilf := dNilf_ok e1
    cases h1; rfl
  · obtain ⟨y1, e1, h1⟩ := Option.bind_eq_some_iff.1 h
    obtain rfl : a = .nilf := dNilf_ok e1
    cases h1; rfl
  · obtain ⟨y1, e1, h1⟩ := Option.bind_eq_some_iff.1 h
    obtain rfl : a = .nilf := dNilf_ok e1
    cases h1; rfl
  · obtain ⟨y1, e1, h1⟩ := Option.bind_eq_some_iff.1 h
    obtain rfl : a = .nilf := dNilf_ok e1
    cases h1; rfl
  · obtain ⟨y1, e1, h1⟩ := Option.bind_eq_some_iff.1 h
    obtain rfl : a = .nilp := dNilp_ok e1
    cases h1; rfl
  · obtain ⟨y1, e1, h1⟩ := Option.bind_eq_some_iff.1 h
    obtain rfl : a = .int .u32 y1 := dInt_ok e1
    cases h1; rfl
  · obtain ⟨y1, e1, h1⟩ := Option.bind_eq_some_iff.1 h
    obtain rfl : a = .arr 104 8 y1 := dArr_ok e1
    cases h1; rfl
  · obtain ⟨y1, e1, h1⟩ := Option.bind_eq_some_iff.1 h
    obtain rfl : a = .nilf := dNilf_ok e1
    cases h1; rfl
  · obtain ⟨y1, e1, h1⟩ := Option.bind_eq_some_iff.1 h
    obtain rfl : a = .arr 5 64 y1 := dArr_ok e1
    cases h1; rfl
  · obtain ⟨l1, e1, h1⟩ := Option.bind_eq_some_iff.1 h
    obtain rfl : a = .agg l1 := dAgg_ok e1
    obtain ⟨⟨q2, r2⟩, e2, h2⟩ := Option.bind_eq_some_iff.1 h1
    obtain rfl : l1 = q2 :: r2 := dCons_ok e2
    obtain ⟨y3, e3, h3⟩ := Option.bind_eq_some_iff.1 h2
    obtain rfl : q2 = .arr 104 8 y3 := dArr_ok e3
    obtain ⟨⟨q4, r4⟩, e4, h4⟩ := Option.bind_eq_some_iff.1 h3
    obtain rfl : r2 = q4 :: r4 := dCons_ok e4
    obtain ⟨y5, e5, h5⟩ := Option.bind_eq_some_iff.1 h4
    obtain rfl : q4 = .arr 5 64 y5 := dArr_ok e5
    obtain ⟨⟨q6, r6⟩, e6, h6⟩ := Option.bind_eq_some_iff.1 h5
    obtain rfl : r4 = q6 :: r6 := dCons_ok e6
    obtain ⟨y7, e7, h7⟩ := Option.bind_eq_some_iff.1 h6
    obtain rfl : q6 = .int .i64 y7 := dInt_ok e7
    obtain ⟨_, e8, h8⟩ := Option.bind_eq_some_iff.1 h7
    obtain rfl : r6 = [] := dEnd_ok e8
    cases h8; rfl
  · obtain ⟨y1, e1, h1⟩ := Option.bind_eq_some_iff.1 h
    obtain rfl : a = .arr 5 72 y1 := dArr_ok e1
    cases h1; rfl
  · obtain ⟨y1, e1, h1⟩ := Option.bind_eq_some_iff.1 h
    obtain rfl : a = .int .u64 y1 := dInt_ok e1
    cases h1; rfl
  · obtain ⟨y1, e1, h1⟩ := Option.bind_eq_some_iff.1 h
    obtain rfl : a = .arr 104 64 y1 := dArr_ok e1
    cases h1; rfl
  · obtain ⟨y1, e1, h1⟩ := Option.bind_eq_some_iff.1 h
    obtain rfl : a = .int .u64 y1 := dInt_ok e1
    cases h1; rfl
  · cases h
theorem PPlain : ∀ r ∈ PE.tys, plainTy r.ty = true → PlainOk PE r.t :=
  List.forall_mem_cons.2 ⟨(fun _ => ⟨fun l m => eqLI_iff l m, fun x y => ⟨decI x y, rfl, decI_iff x y⟩⟩),
  List.forall_mem_cons.2 ⟨(fun _ => ⟨fun l m => eqLB_iff l m, fun x y => ⟨decB x y, rfl, decB_iff x y⟩⟩),
  List.forall_mem_cons.2 ⟨(fun _ => ⟨fun l m => eqLI_iff l m, fun x y => ⟨decI x y, rfl, decI_iff x y⟩⟩),
  List.forall_mem_cons.2 ⟨(fun _ => ⟨fun l m => eqLS_iff l m, fun x y => ⟨seq x y, rfl, seq_iff⟩⟩),
  List.forall_mem_cons.2 ⟨(fun h => nomatch h),
  List.forall_mem_cons.2 ⟨(fun h => nomatch h),
  List.forall_mem_cons.2 ⟨(fun h => nomatch h),
  List.forall_mem_cons.2 ⟨(fun h => nomatch h),
  List.forall_mem_cons.2 ⟨(fun _ => ⟨fun l m => eqLI_iff l m, fun x y => ⟨decI x y, rfl, decI_iff x y⟩⟩),
  List.forall_mem_cons.2 ⟨(fun h => nomatch h),
  List.forall_mem_cons.2 ⟨(fun h => nomatch h),
  List.forall_mem_cons.2 ⟨(fun h => nomatch h),
  List.forall_mem_cons.2 ⟨(fun h => nomatch h),
  List.forall_mem_cons.2 ⟨(fun h => nomatch h),
  List.forall_mem_cons.2 ⟨(fun h => nomatch h),
  List.forall_mem_cons.2 ⟨(fun h => nomatch h),
  List.forall_mem_cons.2 ⟨(fun h => nomatch h),
  List.forall_mem_cons.2 ⟨(fun h => nomatch h),
  List.forall_mem_cons.2 ⟨(fun _ => ⟨fun l m => eqLI_iff l m, fun x y => ⟨decI x y, rfl, decI_iff x y⟩⟩),
  List.forall_mem_cons.2 ⟨(fun h => nomatch h),
  List.forall_mem_cons.2 ⟨(fun h => nomatch h),
  List.forall_mem_cons.2 ⟨(fun h => nomatch h),
  List.forall_mem_cons.2 ⟨(fun h => nomatch h),
  List.forall_mem_cons.2 ⟨(fun h => nomatch h),
  List.forall_mem_cons.2 ⟨(fun _ => ⟨fun l m => eqLI_iff l m, fun x y => ⟨decI x y, rfl, decI_iff x y⟩⟩),
  List.forall_mem_cons.2 ⟨(fun h => nomatch h),
  List.forall_mem_cons.2 ⟨(fun _ => ⟨fun l m => eqLI_iff l m, fun x y => ⟨decI x y, rfl, decI_iff x y⟩⟩),
  (fun _ h => nomatch h)⟩⟩⟩⟩⟩⟩⟩⟩⟩⟩⟩⟩⟩⟩⟩⟩⟩⟩⟩⟩⟩⟩⟩⟩⟩⟩⟩
theorem PToBOk (c : Nat) (l : List (PU c)) (t : ByteArray) (h : PToB c l = some t) : PE.ty c = .int .u8 ∧ ∃ ns : List Int, l.map (PE.enc c) = ns.map (.int .u8) ∧ t = bytesOf ns := by
  unfold PToB at h
  split at h
  · rename_i x; cases h; exact ⟨rfl, x, List.map_congr_left fun _ _ => rfl, rfl⟩
  · cases h
theorem POfBOk (c : Nat) (t : ByteArray) (l : List (PU c)) (h : POfB c t = some l) : PE.ty c = .int .u8 ∧ l.map (PE.enc c) = (bytesTo t).map (.int .u8) := by
  unfold POfB at h
  split at h
  · cases h; exact ⟨rfl, List.map_congr_left fun _ _ => rfl⟩
  · cases h
theorem PGlobOk (g : Nat) : loan (PGlob g) = false ∧ noTupG (PGlob g) = true := by
  unfold PGlob
  split <;> exact ⟨rfl, rfl⟩
theorem PEok : EnvOk2 PE := envOk_of PE ⟨fun c x => (PEncOk c x).1, fun c x => (PEncOk c x).2, PDecOk⟩ (by kernel_rfl) (by kernel_rfl) ⟨PGlobOk, eqA_of PPlain, by kernel_rfl, PToBOk, POfBOk⟩
end Go.V
