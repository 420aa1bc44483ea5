import Derived.Test.YtmlbaehjlbpbcaaDoorVF10F
import Derived.Test.YtmlbaehjlbpbcaaDoorProg
set_option linter.unusedVariables false
namespace Go.V
open Go
def PX : Nat → (α : Type) × α
  | 3 => ⟨Int, (0 : Int)⟩
  | 4 => ⟨Bool, false⟩
  | 5 => ⟨Int, (0 : Int)⟩
  | 9 => ⟨ByteArray, ByteArray.empty⟩
  | 22 => ⟨(List S_api_User), ([] : List S_api_User)⟩
  | 23 => ⟨(List S_api_Head), ([] : List S_api_Head)⟩
  | 24 => ⟨(List S_api_Session), ([] : List S_api_Session)⟩
  | 26 => ⟨S_api_Directory, (S_api_Directory.mk (0 : Int) ([] : List S_api_User) ([] : List S_api_Head) ([] : List S_api_Session))⟩
  | 27 => ⟨Int, (0 : Int)⟩
  | 29 => ⟨(List Int), (List.replicate 32 (0 : Int))⟩
  | 31 => ⟨S_api_Command, (S_api_Command.mk (0 : Int) (0 : Int) (0 : Int) ByteArray.empty ByteArray.empty (0 : Int) (List.replicate 32 (0 : Int)))⟩
  | 34 => ⟨Int, (0 : Int)⟩
  | 40 => ⟨(List S_api_Version), ([] : List S_api_Version)⟩
  | 42 => ⟨S_api_User, (S_api_User.mk ByteArray.empty ([] : List S_api_Version))⟩
  | 46 => ⟨Int, (0 : Int)⟩
  | 48 => ⟨S_api_Version, (S_api_Version.mk (0 : Int) (0 : Int) ByteArray.empty)⟩
  | 50 => ⟨S_api_Head, (S_api_Head.mk (0 : Int) (List.replicate 32 (0 : Int)) (List.replicate 32 (0 : Int)))⟩
  | 53 => ⟨S_api_Session, (S_api_Session.mk (0 : Int) (0 : Int) (0 : Int) (0 : Int))⟩
  | 63 => ⟨(List Int), ([] : List Int)⟩
  | 70 => ⟨Unit, ()⟩
  | 74 => ⟨Unit, ()⟩
  | 75 => ⟨Unit, ()⟩
  | 77 => ⟨Int, (0 : Int)⟩
  | 78 => ⟨(List Int), (List.replicate 8 (0 : Int))⟩
  | 79 => ⟨(List Int), (List.replicate 64 (0 : Int))⟩
  | 81 => ⟨S_sha_Hash, (S_sha_Hash.mk (List.replicate 8 (0 : Int)) (List.replicate 64 (0 : Int)) (0 : Int))⟩
  | 82 => ⟨(List Int), (List.replicate 72 (0 : Int))⟩
  | 83 => ⟨Int, (0 : Int)⟩
  | 89 => ⟨Unit, ()⟩
  | 90 => ⟨(List Int), (List.replicate 64 (0 : Int))⟩
  | 91 => ⟨Int, (0 : Int)⟩
  | _ => ⟨Unit, ()⟩
def PU (c : Nat) : Type := (PX c).1
def PEnc : (c : Nat) → PU c → A PU
  | 3, (x : Int) => .int .i64 x
  | 4, (x : Bool) => .bool x
  | 5, (x : Int) => .int .u8 x
  | 9, (x : ByteArray) => .str x
  | 22, (x : (List S_api_User)) => .ro false 42 x
  | 23, (x : (List S_api_Head)) => .ro false 50 x
  | 24, (x : (List S_api_Session)) => .ro false 53 x
  | 26, (x : S_api_Directory) => .agg [.int .i64 x.f0, .ro false 42 x.f1, .ro false 50 x.f2, .ro false 53 x.f3]
  | 27, (x : Int) => .int .i64 x
  | 29, (x : (List Int)) => .arr 5 32 x
  | 31, (x : S_api_Command) => .agg [.int .i64 x.f0, .int .i64 x.f1, .int .i64 x.f2, .str x.f3, .str x.f4, .int .i64 x.f5, .arr 5 32 x.f6]
  | 34, (x : Int) => .int .i64 x
  | 40, (x : (List S_api_Version)) => .ro false 48 x
  | 42, (x : S_api_User) => .agg [.str x.f0, .ro false 48 x.f1]
  | 46, (x : Int) => .int .i64 x
  | 48, (x : S_api_Version) => .agg [.int .i64 x.f0, .int .i64 x.f1, .str x.f2]
  | 50, (x : S_api_Head) => .agg [.int .i64 x.f0, .arr 5 32 x.f1, .arr 5 32 x.f2]
  | 53, (x : S_api_Session) => .agg [.int .i64 x.f0, .int .i64 x.f1, .int .i64 x.f2, .int .i64 x.f3]
  | 63, (x : (List Int)) => .ro false 5 x
  | 70, (x : Unit) => .nilp
  | 74, (x : Unit) => .nilf
  | 75, (x : Unit) => .nilf
  | 77, (x : Int) => .int .u32 x
  | 78, (x : (List Int)) => .arr 77 8 x
  | 79, (x : (List Int)) => .arr 5 64 x
  | 81, (x : S_sha_Hash) => .agg [.arr 77 8 x.f0, .arr 5 64 x.f1, .int .i64 x.f2]
  | 82, (x : (List Int)) => .arr 5 72 x
  | 83, (x : Int) => .int .u64 x
  | 89, (x : Unit) => .nilf
  | 90, (x : (List Int)) => .arr 77 64 x
  | 91, (x : Int) => .int .u64 x
  | _, _ => .agg []
def PDec : (c : Nat) → A PU → Option (PU c)
  | 3, a => (dInt .i64 a).bind fun y1 => some y1
  | 4, a => (dBool a).bind fun y1 => some y1
  | 5, a => (dInt .u8 a).bind fun y1 => some y1
  | 9, a => (dStr a).bind fun y1 => some y1
  | 22, a => (dRo 42 a).bind fun y1 => some y1
  | 23, a => (dRo 50 a).bind fun y1 => some y1
  | 24, a => (dRo 53 a).bind fun y1 => some y1
  | 26, a => (dAgg a).bind fun l1 => (dCons l1).bind fun p2 => (dInt .i64 p2.1).bind fun y3 => (dCons p2.2).bind fun p4 => (dRo 42 p4.1).bind fun y5 => (dCons p4.2).bind fun p6 => (dRo 50 p6.1).bind fun y7 => (dCons p6.2).bind fun p8 => (dRo 53 p8.1).bind fun y9 => (dEnd p8.2).bind fun _ => some (S_api_Directory.mk y3 y5 y7 y9)
  | 27, a => (dInt .i64 a).bind fun y1 => some y1
  | 29, a => (dArr 5 32 a).bind fun y1 => some y1
  | 31, a => (dAgg a).bind fun l1 => (dCons l1).bind fun p2 => (dInt .i64 p2.1).bind fun y3 => (dCons p2.2).bind fun p4 => (dInt .i64 p4.1).bind fun y5 => (dCons p4.2).bind fun p6 => (dInt .i64 p6.1).bind fun y7 => (dCons p6.2).bind fun p8 => (dStr p8.1).bind fun y9 => (dCons p8.2).bind fun p10 => (dStr p10.1).bind fun y11 => (dCons p10.2).bind fun p12 => (dInt .i64 p12.1).bind fun y13 => (dCons p12.2).bind fun p14 => (dArr 5 32 p14.1).bind fun y15 => (dEnd p14.2).bind fun _ => some (S_api_Command.mk y3 y5 y7 y9 y11 y13 y15)
  | 34, a => (dInt .i64 a).bind fun y1 => some y1
  | 40, a => (dRo 48 a).bind fun y1 => some y1
  | 42, a => (dAgg a).bind fun l1 => (dCons l1).bind fun p2 => (dStr p2.1).bind fun y3 => (dCons p2.2).bind fun p4 => (dRo 48 p4.1).bind fun y5 => (dEnd p4.2).bind fun _ => some (S_api_User.mk y3 y5)
  | 46, a => (dInt .i64 a).bind fun y1 => some y1
  | 48, a => (dAgg a).bind fun l1 => (dCons l1).bind fun p2 => (dInt .i64 p2.1).bind fun y3 => (dCons p2.2).bind fun p4 => (dInt .i64 p4.1).bind fun y5 => (dCons p4.2).bind fun p6 => (dStr p6.1).bind fun y7 => (dEnd p6.2).bind fun _ => some (S_api_Version.mk y3 y5 y7)
  | 50, a => (dAgg a).bind fun l1 => (dCons l1).bind fun p2 => (dInt .i64 p2.1).bind fun y3 => (dCons p2.2).bind fun p4 => (dArr 5 32 p4.1).bind fun y5 => (dCons p4.2).bind fun p6 => (dArr 5 32 p6.1).bind fun y7 => (dEnd p6.2).bind fun _ => some (S_api_Head.mk y3 y5 y7)
  | 53, a => (dAgg a).bind fun l1 => (dCons l1).bind fun p2 => (dInt .i64 p2.1).bind fun y3 => (dCons p2.2).bind fun p4 => (dInt .i64 p4.1).bind fun y5 => (dCons p4.2).bind fun p6 => (dInt .i64 p6.1).bind fun y7 => (dCons p6.2).bind fun p8 => (dInt .i64 p8.1).bind fun y9 => (dEnd p8.2).bind fun _ => some (S_api_Session.mk y3 y5 y7 y9)
  | 63, a => (dRo 5 a).bind fun y1 => some y1
  | 70, a => (dNilp a).bind fun y1 => some y1
  | 74, a => (dNilf a).bind fun y1 => some y1
  | 75, a => (dNilf a).bind fun y1 => some y1
  | 77, a => (dInt .u32 a).bind fun y1 => some y1
  | 78, a => (dArr 77 8 a).bind fun y1 => some y1
  | 79, a => (dArr 5 64 a).bind fun y1 => some y1
  | 81, a => (dAgg a).bind fun l1 => (dCons l1).bind fun p2 => (dArr 77 8 p2.1).bind fun y3 => (dCons p2.2).bind fun p4 => (dArr 5 64 p4.1).bind fun y5 => (dCons p4.2).bind fun p6 => (dInt .i64 p6.1).bind fun y7 => (dEnd p6.2).bind fun _ => some (S_sha_Hash.mk y3 y5 y7)
  | 82, a => (dArr 5 72 a).bind fun y1 => some y1
  | 83, a => (dInt .u64 a).bind fun y1 => some y1
  | 89, a => (dNilf a).bind fun y1 => some y1
  | 90, a => (dArr 77 64 a).bind fun y1 => some y1
  | 91, a => (dInt .u64 a).bind fun y1 => some y1
  | _, _ => .none
def PDfl (c : Nat) : PU c := (PX c).2
def PTys : List Row := [⟨3, .int .i64, 1, 8⟩,
  ⟨4, .bool, 1, 1⟩,
  ⟨5, .int .u8, 1, 1⟩,
  ⟨9, .str, 1, 16⟩,
  ⟨22, .sl 42, 1, 24⟩,
  ⟨23, .sl 50, 1, 24⟩,
  ⟨24, .sl 53, 1, 24⟩,
  ⟨26, .st [(3, 0), (22, 1), (23, 2), (24, 3)], 4, 80⟩,
  ⟨27, .int .i64, 1, 8⟩,
  ⟨29, .arr 32 5, 32, 32⟩,
  ⟨31, .st [(27, 0), (3, 1), (3, 2), (9, 3), (9, 4), (3, 5), (29, 6)], 38, 96⟩,
  ⟨34, .int .i64, 1, 8⟩,
  ⟨40, .sl 48, 1, 24⟩,
  ⟨42, .st [(9, 0), (40, 1)], 2, 40⟩,
  ⟨46, .int .i64, 1, 8⟩,
  ⟨48, .st [(3, 0), (46, 1), (9, 2)], 3, 32⟩,
  ⟨50, .st [(3, 0), (29, 1), (29, 33)], 65, 72⟩,
  ⟨53, .st [(3, 0), (3, 1), (34, 2), (3, 3)], 4, 32⟩,
  ⟨63, .sl 5, 1, 24⟩,
  ⟨70, .ptr 81, 1, 8⟩,
  ⟨74, .func, 1, 8⟩,
  ⟨75, .func, 1, 8⟩,
  ⟨77, .int .u32, 1, 4⟩,
  ⟨78, .arr 8 77, 8, 32⟩,
  ⟨79, .arr 64 5, 64, 64⟩,
  ⟨81, .st [(78, 0), (79, 8), (3, 72)], 73, 104⟩,
  ⟨82, .arr 72 5, 72, 72⟩,
  ⟨83, .int .u64, 1, 8⟩,
  ⟨89, .func, 1, 8⟩,
  ⟨90, .arr 64 77, 64, 256⟩,
  ⟨91, .int .u64, 1, 8⟩]
def PCuts : List (FuncId × Nat × List Nat) := [(12, 5, [1, 3, 4]), (5, 3, [1, 2, 3, 4]), (24, 3, [1, 3, 13]), (15, 3, [0, 3, 4]), (15, 4, [0, 3, 4]), (48, 0, [0, 1]), (48, 1, [0, 1]), (42, 2, [0, 2, 25]), (42, 14, [0, 9, 10, 11, 12, 13, 14, 15, 16, 140, 141]), (42, 23, [0, 210, 211]), (42, 11, [0, 2, 25]), (37, 3, [0, 1]), (38, 9, [0, 2, 3, 4, 5, 6, 22]), (38, 15, [2, 3, 4, 45]), (6, 6, [1, 3, 4, 38, 39, 40]), (6, 12, [1, 3, 87, 88, 89]), (6, 18, [1, 3, 9, 114, 115, 116]), (6, 10, [1, 3, 4, 38, 39, 40]), (6, 9, [1, 3, 6, 38, 39, 40]), (6, 22, [1, 3, 9, 114, 115, 116]), (6, 21, [1, 3, 11, 114, 115, 116]), (6, 2, [1, 3]), (6, 15, [1, 3, 87, 88, 89]), (9, 17, [1, 3]), (9, 12, [1, 3, 4]), (9, 16, [1, 3]), (9, 13, [1, 3, 8]), (9, 8, [1, 3]), (27, 3, [0, 3, 4]), (19, 4, [0, 1, 5]), (45, 4, [0, 3]), (45, 8, [3, 4, 5]), (47, 3, [1, 2, 4, 5, 6]), (47, 7, [2, 4, 5, 7]), (47, 14, [2, 4, 5, 10, 11]), (47, 22, [2, 4, 10, 16]), (40, 4, [2, 3, 4, 5]), (40, 9, [2, 4, 6, 7]), (20, 4, [0, 5]), (8, 4, [1, 3]), (10, 4, [1, 3, 4, 53]), (10, 3, [1, 3, 4]), (10, 2, [1, 3]), (10, 7, [1, 3, 4, 53]), (22, 4, [0, 1, 5]), (11, 4, [2, 3, 5]), (11, 9, [2, 3, 6]), (11, 14, [2, 3, 7])]
def PProcs : List FuncId := [36, 37, 38, 41, 42, 48]
def PLoops : List (FuncId × Nat × List Nat) := [(34, 5, [6])]
def PEqb : (c : Nat) → List (PU c) → List (PU c) → Bool
  | 3, x, y => eqLI x y
  | 4, x, y => eqLB x y
  | 5, x, y => eqLI x y
  | 9, x, y => eqLS x y
  | 27, x, y => eqLI x y
  | 34, x, y => eqLI x y
  | 46, x, y => eqLI x y
  | 77, x, y => eqLI x y
  | 83, x, y => eqLI x y
  | 91, x, y => eqLI x y
  | _, _, _ => false
def PToB : (c : Nat) → List (PU c) → Option ByteArray
  | 5, x => some (bytesOf x)
  | _, _ => .none
def POfB : (c : Nat) → ByteArray → Option (List (PU c))
  | 5, x => some (bytesTo x)
  | _, _ => .none
def PGlob : Nat → A PU
  | 0 => .rp false 90 [G_sha_keys] 0 []
  | 1 => .rp false 90 [G_r02_key] 0 []
  | _ => .none
noncomputable def PE : Env PU where
  P := Go.Proofs.Tryd.prog
  tys := PTys
  enc := PEnc
  dec := PDec
  dflt := PDfl
  eqb := PEqb
  ofBytes := POfB
  toBytes := PToB
  cuts := PCuts
  procs := PProcs
  loops := PLoops
  eqs := [29, 31, 48, 50, 53]
  glob := PGlob
  lends := [37]
theorem PEncOk (c : Nat) (x : PU c) : closed (PEnc c x) = true ∧ size PE.sz (PEnc c x) = PE.sz c := by
  unfold PEnc
  split
  · exact ⟨rfl, rfl⟩
  · exact ⟨rfl, rfl⟩
  · exact ⟨rfl, rfl⟩
  · exact ⟨rfl, rfl⟩
  · exact ⟨rfl, rfl⟩
  · exact ⟨rfl, rfl⟩
  · exact ⟨rfl, rfl⟩
  · exact ⟨rfl, rfl⟩
  · exact ⟨rfl, rfl⟩
  · exact ⟨rfl, rfl⟩
  · exact ⟨rfl, rfl⟩
  · exact ⟨rfl, rfl⟩
  · exact ⟨rfl, rfl⟩
  · exact ⟨rfl, rfl⟩
  · exact ⟨rfl, rfl⟩
  · exact ⟨rfl, rfl⟩
  · exact ⟨rfl, rfl⟩
  · exact ⟨rfl, rfl⟩
  · exact ⟨rfl, rfl⟩
  · exact ⟨rfl, rfl⟩
  · exact ⟨rfl, rfl⟩
  · exact ⟨rfl, rfl⟩
  · exact ⟨rfl, rfl⟩
  · exact ⟨rfl, rfl⟩
  · exact ⟨rfl, rfl⟩
  · exact ⟨rfl, rfl⟩
  · exact ⟨rfl, rfl⟩
  · exact ⟨rfl, rfl⟩
  · exact ⟨rfl, rfl⟩
  · exact ⟨rfl, rfl⟩
  · exact ⟨rfl, rfl⟩
  · rename_i h3 h4 h5 h9 h22 h23 h24 h26 h27 h29 h31 h34 h40 h42 h46 h48 h50 h53 h63 h70 h74 h75 h77 h78 h79 h81 h82 h83 h89 h90 h91
    refine ⟨rfl, ?_⟩
    show 0 = _
    unfold Env.sz
    have hn : rowOf c PE.tys = .none := by
      refine rowOf_none ?_
      intro r hr
      simp only [PE, PTys, List.mem_cons, List.not_mem_nil, or_false] at hr
      rcases hr with rfl | rfl | rfl | rfl | rfl | rfl | rfl | rfl | rfl | rfl | rfl | rfl | rfl | rfl | rfl | rfl | rfl | rfl | rfl | rfl | rfl | rfl | rfl | rfl | rfl | rfl | rfl | rfl | rfl | rfl | rfl <;> intro e <;> subst e
      · exact h3 _ rfl HEq.rfl
      · exact h4 _ rfl HEq.rfl
      · exact h5 _ rfl HEq.rfl
      · exact h9 _ rfl HEq.rfl
      · exact h22 _ rfl HEq.rfl
      · exact h23 _ rfl HEq.rfl
      · exact h24 _ rfl HEq.rfl
      · exact h26 _ rfl HEq.rfl
      · exact h27 _ rfl HEq.rfl
      · exact h29 _ rfl HEq.rfl
      · exact h31 _ rfl HEq.rfl
      · exact h34 _ rfl HEq.rfl
      · exact h40 _ rfl HEq.rfl
      · exact h42 _ rfl HEq.rfl
      · exact h46 _ rfl HEq.rfl
      · exact h48 _ rfl HEq.rfl
      · exact h50 _ rfl HEq.rfl
      · exact h53 _ rfl HEq.rfl
      · exact h63 _ rfl HEq.rfl
      · exact h70 _ rfl HEq.rfl
      · exact h74 _ rfl HEq.rfl
      · exact h75 _ rfl HEq.rfl
      · exact h77 _ rfl HEq.rfl
      · exact h78 _ rfl HEq.rfl
      · exact h79 _ rfl HEq.rfl
      · exact h81 _ rfl HEq.rfl
      · exact h82 _ rfl HEq.rfl
      · exact h83 _ rfl HEq.rfl
      · exact h89 _ rfl HEq.rfl
      · exact h90 _ rfl HEq.rfl
      · exact h91 _ rfl HEq.rfl
    rw [hn]
theorem PDecOk (c : Nat) (a : A PU) (x : PU c) (h : PDec c a = some x) : PEnc c x = a := by
  unfold PDec at h
  split at h
  · obtain ⟨y1, e1, h1⟩ := Option.bind_eq_some_iff.1 h
    obtain rfl : a = .int .i64 y1 := dInt_ok e1
    cases h1; rfl
  · obtain ⟨y1, e1, h1⟩ := Option.bind_eq_some_iff.1 h
    obtain rfl : a = .bool y1 := dBool_ok e1
    cases h1; rfl
  · obtain ⟨y1, e1, h1⟩ := Option.bind_eq_some_iff.1 h
    obtain rfl : a = .int .u8 y1 := dInt_ok e1
    cases h1; rfl
  · obtain ⟨y1, e1, h1⟩ := Option.bind_eq_some_iff.1 h
    obtain rfl : a = .str y1 := dStr_ok e1
    cases h1; rfl
  · obtain ⟨y1, e1, h1⟩ := Option.bind_eq_some_iff.1 h
    obtain rfl : a = .ro false 42 y1 := dRo_ok e1
    cases h1; rfl
  · obtain ⟨y1, e1, h1⟩ := Option.bind_eq_some_iff.1 h
    obtain rfl : a = .ro false 50 y1 := dRo_ok e1
    cases h1; rfl
  · obtain ⟨y1, e1, h1⟩ := Option.bind_eq_some_iff.1 h
    obtain rfl : a = .ro false 53 y1 := dRo_ok e1
    cases h1; rfl
  · obtain ⟨l1, e1, h1⟩ := Option.bind_eq_some_iff.1 h
    obtain rfl : a = .agg l1 := dAgg_ok e1
    obtain ⟨⟨q2, r2⟩, e2, h2⟩ := Option.bind_eq_some_iff.1 h1
    obtain rfl : l1 = q2 :: r2 := dCons_ok e2
    obtain ⟨y3, e3, h3⟩ := Option.bind_eq_some_iff.1 h2
    obtain rfl : q2 = .int .i64 y3 := dInt_ok e3
    obtain ⟨⟨q4, r4⟩, e4, h4⟩ := Option.bind_eq_some_iff.1 h3
    obtain rfl : r2 = q4 :: r4 := dCons_ok e4
    obtain ⟨y5, e5, h5⟩ := Option.bind_eq_some_iff.1 h4
    obtain rfl : q4 = .ro false 42 y5 := dRo_ok e5
    obtain ⟨⟨q6, r6⟩, e6, h6⟩ := Option.bind_eq_some_iff.1 h5
    obtain rfl : r4 = q6 :: r6 := dCons_ok e6
    obtain ⟨y7, e7, h7⟩ := Option.bind_eq_some_iff.1 h6
    obtain rfl : q6 = .ro false 50 y7 := dRo_ok e7
    obtain ⟨⟨q8, r8⟩, e8, h8⟩ := Option.bind_eq_some_iff.1 h7
    obtain rfl : r6 = q8 :: r8 := dCons_ok e8
    obtain ⟨y9, e9, h9⟩ := Option.bind_eq_some_iff.1 h8
    obtain rfl : q8 = .ro false 53 y9 := dRo_ok e9
    obtain ⟨_, e10, h10⟩ := Option.bind_eq_some_iff.1 h9
    obtain rfl : r8 = [] := dEnd_ok e10
    cases h10; rfl
  · obtain ⟨y1, e1, h1⟩ := Option.bind_eq_some_iff.1 h
    obtain rfl : a = .int .i64 y1 := dInt_ok e1
    cases h1; rfl
  · obtain ⟨y1, e1, h1⟩ := Option.bind_eq_some_iff.1 h
    obtain rfl : a = .arr 5 32 y1 := dArr_ok e1
    cases h1; rfl
  · obtain ⟨l1, e1, h1⟩ := Option.bind_eq_some_iff.1 h
    obtain rfl : a = .agg l1 := dAgg_ok e1
    obtain ⟨⟨q2, r2⟩, e2, h2⟩ := Option.bind_eq_some_iff.1 h1
    obtain rfl : l1 = q2 :: r2 := dCons_ok e2
    obtain ⟨y3, e3, h3⟩ := Option.bind_eq_some_iff.1 h2
    obtain rfl : q2 = .int .i64 y3 := dInt_ok e3
    obtain ⟨⟨q4, r4⟩, e4, h4⟩ := Option.bind_eq_some_iff.1 h3
    obtain rfl : r2 = q4 :: r4 := dCons_ok e4
    obtain ⟨y5, e5, h5⟩ := Option.bind_eq_some_iff.1 h4
    obtain rfl : q4 = .int .i64 y5 := dInt_ok e5
    obtain ⟨⟨q6, r6⟩, e6, h6⟩ := Option.bind_eq_some_iff.1 h5
    obtain rfl : r4 = q6 :: r6 := dCons_ok e6
    obtain ⟨y7, e7, h7⟩ := Option.bind_eq_some_iff.1 h6
    obtain rfl : q6 = .int .i64 y7 := dInt_ok e7
    obtain ⟨⟨q8, r8⟩, e8, h8⟩ := Option.bind_eq_some_iff.1 h7
    obtain rfl : r6 = q8 :: r8 := dCons_ok e8
    obtain ⟨y9, e9, h9⟩ := Option.bind_eq_some_iff.1 h8
    obtain rfl : q8 = .str y9 := dStr_ok e9
    obtain ⟨⟨q10, r10⟩, e10, h10⟩ := Option.bind_eq_some_iff.1 h9
    obtain rfl : r8 = q10 :: r10 := dCons_ok e10
    obtain ⟨y11, e11, h11⟩ := Option.bind_eq_some_iff.1 h10
    obtain rfl : q10 = .str y11 := dStr_ok e11
    obtain ⟨⟨q12, r12⟩, e12, h12⟩ := Option.bind_eq_some_iff.1 h11
    obtain rfl : r10 = q12 :: r12 := dCons_ok e12
    obtain ⟨y13, e13, h13⟩ := Option.bind_eq_some_iff.1 h12
    obtain rfl : q12 = .int .i64 y13 := dInt_ok e13
    obtain ⟨⟨q14, r14⟩, e14, h14⟩ := Option.bind_eq_some_iff.1 h13
    obtain rfl : r12 = q14 :: r14 := dCons_ok e14
    obtain ⟨y15, e15, h15⟩ := Option.bind_eq_some_iff.1 h14
    obtain rfl : q14 = .arr 5 32 y15 := dArr_ok e15
    obtain ⟨_, e16, h16⟩ := Option.bind_eq_some_iff.1 h15
    obtain rfl : r14 = [] := dEnd_ok e16
    cases h16; rfl
  · obtain ⟨y1, e1, h1⟩ := Option.bind_eq_some_iff.1 h
    obtain rfl : a = .int .i64 y1 := dInt_ok e1
    cases h1; rfl
  · obtain ⟨y1, e1, h1⟩ := Option.bind_eq_some_iff.1 h
    obtain rfl : a = .ro false 48 y1 := dRo_ok e1
    cases h1; rfl
  · obtain ⟨l1, e1, h1⟩ := Option.bind_eq_some_iff.1 h
    obtain rfl : a = .agg l1 := dAgg_ok e1
    obtain ⟨⟨q2, r2⟩, e2, h2⟩ := Option.bind_eq_some_iff.1 h1
    obtain rfl : l1 = q2 :: r2 := dCons_ok e2
    obtain ⟨y3, e3, h3⟩ := Option.bind_eq_some_iff.1 h2
    obtain rfl : q2 = .str y3 := dStr_ok e3
    obtain ⟨⟨q4, r4⟩, e4, h4⟩ := Option.bind_eq_some_iff.1 h3
    obtain rfl : r2 = q4 :: r4 := dCons_ok e4
    obtain ⟨y5, e5, h5⟩ := Option.bind_eq_some_iff.1 h4
    obtain rfl : q4 = .ro false 48 y5 := dRo_ok e5
    obtain ⟨_, e6, h6⟩ := Option.bind_eq_some_iff.1 h5
    obtain rfl : r4 = [] := dEnd_ok e6
    cases h6; rfl
  · obtain ⟨y1, e1, h1⟩ := Option.bind_eq_some_iff.1 h
    obtain rfl : a = .int .i64 y1 := dInt_ok e1
    cases h1; rfl
  · obtain ⟨l1, e1, h1⟩ := Option.bind_eq_some_iff.1 h
    obtain rfl : a = .agg l1 := dAgg_ok e1
    obtain ⟨⟨q2, r2⟩, e2, h2⟩ := Option.bind_eq_some_iff.1 h1
    obtain rfl : l1 = q2 :: r2 := dCons_ok e2
    obtain ⟨y3, e3, h3⟩ := Option.bind_eq_some_iff.1 h2
    obtain rfl : q2 = .int .i64 y3 := dInt_ok e3
    obtain ⟨⟨q4, r4⟩, e4, h4⟩ := Option.bind_eq_some_iff.1 h3
    obtain rfl : r2 = q4 :: r4 := dCons_ok e4
    obtain ⟨y5, e5, h5⟩ := Option.bind_eq_some_iff.1 h4
    obtain rfl : q4 = .int .i64 y5 := dInt_ok e5
    obtain ⟨⟨q6, r6⟩, e6, h6⟩ := Option.bind_eq_some_iff.1 h5
    obtain rfl : r4 = q6 :: r6 := dCons_ok e6
    obtain ⟨y7, e7, h7⟩ := Option.bind_eq_some_iff.1 h6
    obtain rfl : q6 = .str y7 := dStr_ok e7
    obtain ⟨_, e8, h8⟩ := Option.bind_eq_some_iff.1 h7
    obtain rfl : r6 = [] := dEnd_ok e8
    cases h8; rfl
  · obtain ⟨l1, e1, h1⟩ := Option.bind_eq_some_iff.1 h
    obtain rfl : a = .agg l1 := dAgg_ok e1
    obtain ⟨⟨q2, r2⟩, e2, h2⟩ := Option.bind_eq_some_iff.1 h1
    obtain rfl : l1 = q2 :: r2 := dCons_ok e2
    obtain ⟨y3, e3, h3⟩ := Option.bind_eq_some_iff.1 h2
    obtain rfl : q2 = .int .i64 y3 := dInt_ok e3
    obtain ⟨⟨q4, r4⟩, e4, h4⟩ := Option.bind_eq_some_iff.1 h3
    obtain rfl : r2 = q4 :: r4 := dCons_ok e4
    obtain ⟨y5, e5, h5⟩ := Option.bind_eq_some_iff.1 h4
    obtain rfl : q4 = .arr 5 32 y5 := dArr_ok e5
    obtain ⟨⟨q6, r6⟩, e6, h6⟩ := Option.bind_eq_some_iff.1 h5
    obtain rfl : r4 = q6 :: r6 := dCons_ok e6
    obtain ⟨y7, e7, h7⟩ := Option.bind_eq_some_iff.1 h6
    obtain rfl : q6 = .arr 5 32 y7 := dArr_ok e7
    obtain ⟨_, e8, h8⟩ := Option.bind_eq_some_iff.1 h7
    obtain rfl : r6 = [] := dEnd_ok e8
    cases h8; rfl
  · obtain ⟨l1, e1, h1⟩ := Option.bind_eq_some_iff.1 h
    obtain rfl : a = .agg l1 := dAgg_ok e1
    obtain ⟨⟨q2, r2⟩, e2, h2⟩ := Option.bind_eq_some_iff.1 h1
    obtain rfl : l1 = q2 :: r2 := dCons_ok e2
    obtain ⟨y3, e3, h3⟩ := Option.bind_eq_some_iff.1 h2
    obtain rfl : q2 = .int .i64 y3 := dInt_ok e3
    obtain ⟨⟨q4, r4⟩, e4, h4⟩ := Option.bind_eq_some_iff.1 h3
    obtain rfl : r2 = q4 :: r4 := dCons_ok e4
    obtain ⟨y5, e5, h5⟩ := Option.bind_eq_some_iff.1 h4
    obtain rfl : q4 = .int .i64 y5 := dInt_ok e5
    obtain ⟨⟨q6, r6⟩, e6, h6⟩ := Option.bind_eq_some_iff.1 h5
    obtain rfl : r4 = q6 :: r6 := dCons_ok e6
    obtain ⟨y7, e7, h7⟩ := Option.bind_eq_some_iff.1 h6
    obtain rfl : q6 = .int .i64 y7 := dInt_ok e7
    obtain ⟨⟨q8, r8⟩, e8, h8⟩ := Option.bind_eq_some_iff.1 h7
    obtain rfl : r6 = q8 :: r8 := dCons_ok e8
    obtain ⟨y9, e9, h9⟩ := Option.bind_eq_some_iff.1 h8
    obtain rfl : q8 = .int .i64 y9 := dInt_ok e9
    obtain ⟨_, e10, h10⟩ := Option.bind_eq_some_iff.1 h9
    obtain rfl : r8 = [] := dEnd_ok e10
    cases h10; rfl
  · obtain ⟨y1, e1, h1⟩ := Option.bind_eq_some_iff.1 h
    obtain rfl : a = .ro false 5 y1 := dRo_ok e1
    cases h1; rfl
  · obtain ⟨y1, e1, h1⟩ := Option.bind_eq_some_iff.1 h
    obtain rfl : a = .nilp := dNilp_ok e1
    cases h1; rfl
  · obtain ⟨y1, e1, h1⟩ := Option.bind_eq_some_iff.1 h
    obtain rfl : a = .nilf := dNilf_ok e1
    cases h1; rfl
  · obtain ⟨y1, e1, h1⟩ := Option.bind_eq_some_iff.1 h
    obtain rfl : a = .nilf := dNilf_ok e1
    cases h1; rfl
  · obtain ⟨y1, e1, h1⟩ := Option.bind_eq_some_iff.1 h
    obtain rfl : a = .int .u32 y1 := dInt_ok e1
    cases h1; rfl
  · obtain ⟨y1, e1, h1⟩ := Option.bind_eq_some_iff.1 h
    obtain rfl : a = .arr 77 8 y1 := dArr_ok e1
    cases h1; rfl
  · obtain ⟨y1, e1, h1⟩ := Option.bind_eq_some_iff.1 h
    obtain rfl : a = .arr 5 64 y1 := dArr_ok e1
    cases h1; rfl
  · obtain ⟨l1, e1, h1⟩ := Option.bind_eq_some_iff.1 h
    obtain rfl : a = .agg l1 := dAgg_ok e1
    obtain ⟨⟨q2, r2⟩, e2, h2⟩ := Option.bind_eq_some_iff.1 h1
    obtain rfl : l1 = q2 :: r2 := dCons_ok e2
    obtain ⟨y3, e3, h3⟩ := Option.bind_eq_some_iff.1 h2
    obtain rfl : q2 = .arr 77 8 y3 := dArr_ok e3
    obtain ⟨⟨q4, r4⟩, e4, h4⟩ := Option.bind_eq_some_iff.1 h3
    obtain rfl : r2 = q4 :: r4 := dCons_ok e4
    obtain ⟨y5, e5, h5⟩ := Option.bind_eq_some_iff.1 h4
    obtain rfl : q4 = .arr 5 64 y5 := dArr_ok e5
    obtain ⟨⟨q6, r6⟩, e6, h6⟩ := Option.bind_eq_some_iff.1 h5
    obtain rfl : r4 = q6 :: r6 := dCons_ok e6
    obtain ⟨y7, e7, h7⟩ := Option.bind_eq_some_iff.1 h6
    obtain rfl : q6 = .int .i64 y7 := dInt_ok e7
    obtain ⟨_, e8, h8⟩ := Option.bind_eq_some_iff.1 h7
    obtain rfl : r6 = [] := dEnd_ok e8
    cases h8; rfl
  · obtain ⟨y1, e1, h1⟩ := Option.bind_eq_some_iff.1 h
    obtain rfl : a = .arr 5 72 y1 := dArr_ok e1
    cases h1; rfl
  · obtain ⟨y1, e1, h1⟩ := Option.bind_eq_some_iff.1 h
    obtain rfl : a = .int .u64 y1 := dInt_ok e1
    cases h1; rfl
  · obtain ⟨y1, e1, h1⟩ := Option.bind_eq_some_iff.1 h
    obtain rfl : a = .nilf := dNilf_ok e1
    cases h1; rfl
  · obtain ⟨y1, e1, h1⟩ := Option.bind_eq_some_iff.1 h
    obtain rfl : a = .arr 77 64 y1 := dArr_ok e1
    cases h1; rfl
  · obtain ⟨y1, e1, h1⟩ := Option.bind_eq_some_iff.1 h
    obtain rfl : a = .int .u64 y1 := dInt_ok e1
    cases h1; rfl
  · cases h
theorem PPlain : ∀ r ∈ PE.tys, plainTy r.ty = true → PlainOk PE r.t :=
  List.forall_mem_cons.2 ⟨(fun _ => ⟨fun l m => eqLI_iff l m, fun x y => ⟨decI x y, rfl, decI_iff x y⟩⟩),
  List.forall_mem_cons.2 ⟨(fun _ => ⟨fun l m => eqLB_iff l m, fun x y => ⟨decB x y, rfl, decB_iff x y⟩⟩),
  List.forall_mem_cons.2 ⟨(fun _ => ⟨fun l m => eqLI_iff l m, fun x y => ⟨decI x y, rfl, decI_iff x y⟩⟩),
  List.forall_mem_cons.2 ⟨(fun _ => ⟨fun l m => eqLS_iff l m, fun x y => ⟨seq x y, rfl, seq_iff⟩⟩),
  List.forall_mem_cons.2 ⟨(fun h => nomatch h),
  List.forall_mem_cons.2 ⟨(fun h => nomatch h),
  List.forall_mem_cons.2 ⟨(fun h => nomatch h),
  List.forall_mem_cons.2 ⟨(fun h => nomatch h),
  List.forall_mem_cons.2 ⟨(fun _ => ⟨fun l m => eqLI_iff l m, fun x y => ⟨decI x y, rfl, decI_iff x y⟩⟩),
  List.forall_mem_cons.2 ⟨(fun h => nomatch h),
  List.forall_mem_cons.2 ⟨(fun h => nomatch h),
  List.forall_mem_cons.2 ⟨(fun _ => ⟨fun l m => eqLI_iff l m, fun x y => ⟨decI x y, rfl, decI_iff x y⟩⟩),
  List.forall_mem_cons.2 ⟨(fun h => nomatch h),
  List.forall_mem_cons.2 ⟨(fun h => nomatch h),
  List.forall_mem_cons.2 ⟨(fun _ => ⟨fun l m => eqLI_iff l m, fun x y => ⟨decI x y, rfl, decI_iff x y⟩⟩),
  List.forall_mem_cons.2 ⟨(fun h => nomatch h),
  List.forall_mem_cons.2 ⟨(fun h => nomatch h),
  List.forall_mem_cons.2 ⟨(fun h => nomatch h),
  List.forall_mem_cons.2 ⟨(fun h => nomatch h),
  List.forall_mem_cons.2 ⟨(fun h => nomatch h),
  List.forall_mem_cons.2 ⟨(fun h => nomatch h),
  List.forall_mem_cons.2 ⟨(fun h => nomatch h),
  List.forall_mem_cons.2 ⟨(fun _ => ⟨fun l m => eqLI_iff l m, fun x y => ⟨decI x y, rfl, decI_iff x y⟩⟩),
  List.forall_mem_cons.2 ⟨(fun h => nomatch h),
  List.forall_mem_cons.2 ⟨(fun h => nomatch h),
  List.forall_mem_cons.2 ⟨(fun h => nomatch h),
  List.forall_mem_cons.2 ⟨(fun h => nomatch h),
  List.forall_mem_cons.2 ⟨(fun _ => ⟨fun l m => eqLI_iff l m, fun x y => ⟨decI x y, rfl, decI_iff x y⟩⟩),
  List.forall_mem_cons.2 ⟨(fun h => nomatch h),
  List.forall_mem_cons.2 ⟨(fun h => nomatch h),
  List.forall_mem_cons.2 ⟨(fun _ => ⟨fun l m => eqLI_iff l m, fun x y => ⟨decI x y, rfl, decI_iff x y⟩⟩),
  (fun _ h => nomatch h)⟩⟩⟩⟩⟩⟩⟩⟩⟩⟩⟩⟩⟩⟩⟩⟩⟩⟩⟩⟩⟩⟩⟩⟩⟩⟩⟩⟩⟩⟩⟩
theorem PToBOk (c : Nat) (l : List (PU c)) (t : ByteArray) (h : PToB c l = some t) : PE.ty c = .int .u8 ∧ ∃ ns : List Int, l.map (PE.enc c) = ns.map (.int .u8) ∧ t = bytesOf ns := by
  unfold PToB at h
  split at h
  · rename_i x; cases h; exact ⟨rfl, x, List.map_congr_left fun _ _ => rfl, rfl⟩
  · cases h
theorem POfBOk (c : Nat) (t : ByteArray) (l : List (PU c)) (h : POfB c t = some l) : PE.ty c = .int .u8 ∧ l.map (PE.enc c) = (bytesTo t).map (.int .u8) := by
  unfold POfB at h
  split at h
  · cases h; exact ⟨rfl, List.map_congr_left fun _ _ => rfl⟩
  · cases h
theorem PGlobOk (g : Nat) : loan (PGlob g) = false ∧ noTupG (PGlob g) = true := by
  unfold PGlob
  split <;> exact ⟨rfl, rfl⟩
theorem PEok : EnvOk2 PE := envOk_of PE ⟨fun c x => (PEncOk c x).1, fun c x => (PEncOk c x).2, PDecOk⟩ (by kernel_rfl) (by kernel_rfl) ⟨PGlobOk, eqA_of PPlain, by kernel_rfl, PToBOk, POfBOk⟩
end Go.V
