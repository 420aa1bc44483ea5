import Derived.Test.YtnpdhpbhkdejoaaDoorVG19F
import Derived.Test.YtnpdhpbhkdejoaaDoorProg
set_option linter.unusedVariables false
namespace Go.V
open Go
def PX : Nat → (α : Type) × α
  | 3 => ⟨Int, (0 : Int)⟩
  | 4 => ⟨Bool, false⟩
  | 5 => ⟨Int, (0 : Int)⟩
  | 9 => ⟨ByteArray, ByteArray.empty⟩
  | 22 => ⟨(List S_api_User), ([] : List S_api_User)⟩
  | 23 => ⟨(List S_api_Head), ([] : List S_api_Head)⟩
  | 24 => ⟨(List S_api_Session), ([] : List S_api_Session)⟩
  | 26 => ⟨S_api_Directory, (S_api_Directory.mk (0 : Int) ([] : List S_api_User) ([] : List S_api_Head) ([] : List S_api_Session))⟩
  | 27 => ⟨(List S_api_Signed), ([] : List S_api_Signed)⟩
  | 29 => ⟨Int, (0 : Int)⟩
  | 34 => ⟨(List Int), (List.replicate 32 (0 : Int))⟩
  | 36 => ⟨S_api_Head, (S_api_Head.mk (0 : Int) (List.replicate 32 (0 : Int)) (List.replicate 32 (0 : Int)))⟩
  | 38 => ⟨S_api_Signed, (S_api_Signed.mk (S_api_Head.mk (0 : Int) (List.replicate 32 (0 : Int)) (List.replicate 32 (0 : Int))) (List.replicate 32 (0 : Int)))⟩
  | 43 => ⟨Unit, ()⟩
  | 44 => ⟨Unit, ()⟩
  | 49 => ⟨Unit, ()⟩
  | 50 => ⟨Unit, ()⟩
  | 52 => ⟨(List S_api_Version), ([] : List S_api_Version)⟩
  | 54 => ⟨S_api_User, (S_api_User.mk ByteArray.empty ([] : List S_api_Version))⟩
  | 56 => ⟨Unit, ()⟩
  | 57 => ⟨(List Int), ([] : List Int)⟩
  | 65 => ⟨S_api_Session, (S_api_Session.mk (0 : Int) (0 : Int) (0 : Int) (0 : Int))⟩
  | 66 => ⟨Unit, ()⟩
  | 68 => ⟨Int, (0 : Int)⟩
  | 70 => ⟨S_api_Version, (S_api_Version.mk (0 : Int) (0 : Int) ByteArray.empty)⟩
  | 74 => ⟨(List Int), (List.replicate 64 (0 : Int))⟩
  | 77 => ⟨Unit, ()⟩
  | 78 => ⟨Unit, ()⟩
  | 79 => ⟨Unit, ()⟩
  | 89 => ⟨Unit, ()⟩
  | 90 => ⟨Unit, ()⟩
  | 92 => ⟨Int, (0 : Int)⟩
  | 93 => ⟨(List Int), (List.replicate 8 (0 : Int))⟩
  | 95 => ⟨S_sha_Hash, (S_sha_Hash.mk (List.replicate 8 (0 : Int)) (List.replicate 64 (0 : Int)) (0 : Int))⟩
  | 96 => ⟨(List Int), (List.replicate 72 (0 : Int))⟩
  | 97 => ⟨Int, (0 : Int)⟩
  | 102 => ⟨Unit, ()⟩
  | 103 => ⟨(List Int), (List.replicate 64 (0 : Int))⟩
  | 104 => ⟨Int, (0 : Int)⟩
  | _ => ⟨Unit, ()⟩
def PU (c : Nat) : Type := (PX c).1
def PEnc : (c : Nat) → PU c → A PU
  | 3, (x : Int) => .int .i64 x
  | 4, (x : Bool) => .bool x
  | 5, (x : Int) => .int .u8 x
  | 9, (x : ByteArray) => .str x
  | 22, (x : (List S_api_User)) => .ro false 54 x
  | 23, (x : (List S_api_Head)) => .ro false 36 x
  | 24, (x : (List S_api_Session)) => .ro false 65 x
  | 26, (x : S_api_Directory) => .agg [.int .i64 x.f0, .ro false 54 x.f1, .ro false 36 x.f2, .ro false 65 x.f3]
  | 27, (x : (List S_api_Signed)) => .ro false 38 x
  | 29, (x : Int) => .int .i64 x
  | 34, (x : (List Int)) => .arr 5 32 x
  | 36, (x : S_api_Head) => .agg [.int .i64 x.f0, .arr 5 32 x.f1, .arr 5 32 x.f2]
  | 38, (x : S_api_Signed) => .agg [.agg [.int .i64 x.f0.f0, .arr 5 32 x.f0.f1, .arr 5 32 x.f0.f2], .arr 5 32 x.f1]
  | 43, (x : Unit) => .nilf
  | 44, (x : Unit) => .nilf
  | 49, (x : Unit) => .nilf
  | 50, (x : Unit) => .nilf
  | 52, (x : (List S_api_Version)) => .ro false 70 x
  | 54, (x : S_api_User) => .agg [.str x.f0, .ro false 70 x.f1]
  | 56, (x : Unit) => .nilf
  | 57, (x : (List Int)) => .ro false 5 x
  | 65, (x : S_api_Session) => .agg [.int .i64 x.f0, .int .i64 x.f1, .int .i64 x.f2, .int .i64 x.f3]
  | 66, (x : Unit) => .nilf
  | 68, (x : Int) => .int .i64 x
  | 70, (x : S_api_Version) => .agg [.int .i64 x.f0, .int .i64 x.f1, .str x.f2]
  | 74, (x : (List Int)) => .arr 5 64 x
  | 77, (x : Unit) => .nilf
  | 78, (x : Unit) => .nilf
  | 79, (x : Unit) => .nilp
  | 89, (x : Unit) => .nilf
  | 90, (x : Unit) => .nilf
  | 92, (x : Int) => .int .u32 x
  | 93, (x : (List Int)) => .arr 92 8 x
  | 95, (x : S_sha_Hash) => .agg [.arr 92 8 x.f0, .arr 5 64 x.f1, .int .i64 x.f2]
  | 96, (x : (List Int)) => .arr 5 72 x
  | 97, (x : Int) => .int .u64 x
  | 102, (x : Unit) => .nilf
  | 103, (x : (List Int)) => .arr 92 64 x
  | 104, (x : Int) => .int .u64 x
  | _, _ => .agg []
def PDec : (c : Nat) → A PU → Option (PU c)
  | 3, a => (dInt .i64 a).bind fun y1 => some y1
  | 4, a => (dBool a).bind fun y1 => some y1
  | 5, a => (dInt .u8 a).bind fun y1 => some y1
  | 9, a => (dStr a).bind fun y1 => some y1
  | 22, a => (dRo 54 a).bind fun y1 => some y1
  | 23, a => (dRo 36 a).bind fun y1 => some y1
  | 24, a => (dRo 65 a).bind fun y1 => some y1
  | 26, a => (dAgg a).bind fun l1 => (dCons l1).bind fun p2 => (dInt .i64 p2.1).bind fun y3 => (dCons p2.2).bind fun p4 => (dRo 54 p4.1).bind fun y5 => (dCons p4.2).bind fun p6 => (dRo 36 p6.1).bind fun y7 => (dCons p6.2).bind fun p8 => (dRo 65 p8.1).bind fun y9 => (dEnd p8.2).bind fun _ => some (S_api_Directory.mk y3 y5 y7 y9)
  | 27, a => (dRo 38 a).bind fun y1 => some y1
  | 29, a => (dInt .i64 a).bind fun y1 => some y1
  | 34, a => (dArr 5 32 a).bind fun y1 => some y1
  | 36, a => (dAgg a).bind fun l1 => (dCons l1).bind fun p2 => (dInt .i64 p2.1).bind fun y3 => (dCons p2.2).bind fun p4 => (dArr 5 32 p4.1).bind fun y5 => (dCons p4.2).bind fun p6 => (dArr 5 32 p6.1).bind fun y7 => (dEnd p6.2).bind fun _ => some (S_api_Head.mk y3 y5 y7)
  | 38, a => (dAgg a).bind fun l1 => (dCons l1).bind fun p2 => (dAgg p2.1).bind fun l3 => (dCons l3).bind fun p4 => (dInt .i64 p4.1).bind fun y5 => (dCons p4.2).bind fun p6 => (dArr 5 32 p6.1).bind fun y7 => (dCons p6.2).bind fun p8 => (dArr 5 32 p8.1).bind fun y9 => (dEnd p8.2).bind fun _ => (dCons p2.2).bind fun p10 => (dArr 5 32 p10.1).bind fun y11 => (dEnd p10.2).bind fun _ => some (S_api_Signed.mk (S_api_Head.mk y5 y7 y9) y11)
  | 43, a => (dNilf a).bind fun y1 => some y1
  | 44, a => (dNilf a).bind fun y1 => some y1
  | 49, a => (dNilf a).bind fun y1 => some y1
  | 50, a => (dNilf a).bind fun y1 => some y1
  | 52, a => (dRo 70 a).bind fun y1 => some y1
  | 54, a => (dAgg a).bind fun l1 => (dCons l1).bind fun p2 => (dStr p2.1).bind fun y3 => (dCons p2.2).bind fun p4 => (dRo 70 p4.1).bind fun y5 => (dEnd p4.2).bind fun _ => some (S_api_User.mk y3 y5)
  | 56, a => (dNilf a).bind fun y1 => some y1
  | 57, a => (dRo 5 a).bind fun y1 => some y1
  | 65, a => (dAgg a).bind fun l1 => (dCons l1).bind fun p2 => (dInt .i64 p2.1).bind fun y3 => (dCons p2.2).bind fun p4 => (dInt .i64 p4.1).bind fun y5 => (dCons p4.2).bind fun p6 => (dInt .i64 p6.1).bind fun y7 => (dCons p6.2).bind fun p8 => (dInt .i64 p8.1).bind fun y9 => (dEnd p8.2).bind fun _ => some (S_api_Session.mk y3 y5 y7 y9)
  | 66, a => (dNilf a).bind fun y1 => some y1
  | 68, a => (dInt .i64 a).bind fun y1 => some y1
  | 70, a => (dAgg a).bind fun l1 => (dCons l1).bind fun p2 => (dInt .i64 p2.1).bind fun y3 => (dCons p2.2).bind fun p4 => (dInt .i64 p4.1).bind fun y5 => (dCons p4.2).bind fun p6 => (dStr p6.1).bind fun y7 => (dEnd p6.2).bind fun _ => some (S_api_Version.mk y3 y5 y7)
  | 74, a => (dArr 5 64 a).bind fun y1 => some y1
  | 77, a => (dNilf a).bind fun y1 => some y1
  | 78, a => (dNilf a).bind fun y1 => some y1
  | 79, a => (dNilp a).bind fun y1 => some y1
  | 89, a => (dNilf a).bind fun y1 => some y1
  | 90, a => (dNilf a).bind fun y1 => some y1
  | 92, a => (dInt .u32 a).bind fun y1 => some y1
  | 93, a => (dArr 92 8 a).bind fun y1 => some y1
  | 95, a => (dAgg a).bind fun l1 => (dCons l1).bind fun p2 => (dArr 92 8 p2.1).bind fun y3 => (dCons p2.2).bind fun p4 => (dArr 5 64 p4.1).bind fun y5 => (dCons p4.2).bind fun p6 => (dInt .i64 p6.1).bind fun y7 => (dEnd p6.2).bind fun _ => some (S_sha_Hash.mk y3 y5 y7)
  | 96, a => (dArr 5 72 a).bind fun y1 => some y1
  | 97, a => (dInt .u64 a).bind fun y1 => some y1
  | 102, a => (dNilf a).bind fun y1 => some y1
  | 103, a => (dArr 92 64 a).bind fun y1 => some y1
  | 104, a => (dInt .u64 a).bind fun y1 => some y1
  | _, _ => .none
def PDfl (c : Nat) : PU c := (PX c).2
def PTys : List Row := [⟨3, .int .i64, 1, 8⟩,
  ⟨4, .bool, 1, 1⟩,
  ⟨5, .int .u8, 1, 1⟩,
  ⟨9, .str, 1, 16⟩,
  ⟨22, .sl 54, 1, 24⟩,
  ⟨23, .sl 36, 1, 24⟩,
  ⟨24, .sl 65, 1, 24⟩,
  ⟨26, .st [(3, 0), (22, 1), (23, 2), (24, 3)], 4, 80⟩,
  ⟨27, .sl 38, 1, 24⟩,
  ⟨29, .int .i64, 1, 8⟩,
  ⟨34, .arr 32 5, 32, 32⟩,
  ⟨36, .st [(3, 0), (34, 1), (34, 33)], 65, 72⟩,
  ⟨38, .st [(36, 0), (34, 65)], 97, 104⟩,
  ⟨43, .func, 1, 8⟩,
  ⟨44, .func, 1, 8⟩,
  ⟨49, .func, 1, 8⟩,
  ⟨50, .func, 1, 8⟩,
  ⟨52, .sl 70, 1, 24⟩,
  ⟨54, .st [(9, 0), (52, 1)], 2, 40⟩,
  ⟨56, .func, 1, 8⟩,
  ⟨57, .sl 5, 1, 24⟩,
  ⟨65, .st [(3, 0), (3, 1), (29, 2), (3, 3)], 4, 32⟩,
  ⟨66, .func, 1, 8⟩,
  ⟨68, .int .i64, 1, 8⟩,
  ⟨70, .st [(3, 0), (68, 1), (9, 2)], 3, 32⟩,
  ⟨74, .arr 64 5, 64, 64⟩,
  ⟨77, .func, 1, 8⟩,
  ⟨78, .func, 1, 8⟩,
  ⟨79, .ptr 95, 1, 8⟩,
  ⟨89, .func, 1, 8⟩,
  ⟨90, .func, 1, 8⟩,
  ⟨92, .int .u32, 1, 4⟩,
  ⟨93, .arr 8 92, 8, 32⟩,
  ⟨95, .st [(93, 0), (74, 8), (3, 72)], 73, 104⟩,
  ⟨96, .arr 72 5, 72, 72⟩,
  ⟨97, .int .u64, 1, 8⟩,
  ⟨102, .func, 1, 8⟩,
  ⟨103, .arr 64 92, 64, 256⟩,
  ⟨104, .int .u64, 1, 8⟩]
def PCuts : List (FuncId × Nat × List Nat) := [(13, 5, [1, 3, 4]), (52, 3, [1, 3, 13]), (34, 3, [0, 3, 4]), (34, 4, [0, 3, 4]), (63, 0, [0, 1]), (63, 1, [0, 1]), (56, 2, [0, 2, 25]), (56, 14, [0, 9, 10, 11, 12, 13, 14, 15, 16, 140, 141]), (56, 23, [0, 210, 211]), (56, 11, [0, 2, 25]), (43, 3, [0, 1]), (44, 9, [0, 2, 3, 4, 5, 6, 22]), (44, 15, [2, 3, 4, 45]), (21, 6, [1, 3, 4, 38, 39, 40]), (21, 12, [1, 3, 87, 88, 89]), (21, 18, [1, 3, 9, 114, 115, 116]), (21, 10, [1, 3, 4, 38, 39, 40]), (21, 9, [1, 3, 6, 38, 39, 40]), (21, 22, [1, 3, 9, 114, 115, 116]), (21, 21, [1, 3, 11, 114, 115, 116]), (21, 2, [1, 3]), (21, 15, [1, 3, 87, 88, 89]), (40, 2, [1, 2, 7, 8]), (25, 5, [0, 1, 4, 5]), (25, 7, [1, 4, 7]), (22, 1, [0, 5, 6, 7]), (22, 2, [0, 5, 6, 7]), (22, 3, [0, 4, 5, 6, 7]), (46, 3, [0, 3, 4]), (27, 4, [0, 1, 5]), (60, 4, [0, 3]), (60, 8, [3, 4, 5]), (62, 3, [1, 2, 4, 5, 6]), (62, 7, [2, 4, 5, 7]), (62, 14, [2, 4, 5, 10, 11]), (62, 22, [2, 4, 10, 16]), (50, 4, [2, 3, 4, 5]), (50, 9, [2, 4, 6, 7]), (28, 4, [0, 5]), (17, 4, [1, 3]), (30, 6, [0, 1, 4, 5, 7]), (30, 12, [1, 4, 5, 8, 9, 10]), (6, 7, [0, 3, 6, 7]), (31, 1, [0, 5, 6, 7]), (11, 2, [0, 1, 5]), (11, 5, [0, 1, 5, 6]), (12, 4, [0, 1, 5])]
def PProcs : List FuncId := [15, 20, 22, 31, 39, 40, 41, 42, 43, 44, 55, 56, 63]
def PLoops : List (FuncId × Nat × List Nat) := [(36, 5, [6]), (5, 6, [2, 7]), (10, 5, [5, 6]), (10, 3, [3, 5])]
def PEqb : (c : Nat) → List (PU c) → List (PU c) → Bool
  | 3, x, y => eqLI x y
  | 4, x, y => eqLB x y
  | 5, x, y => eqLI x y
  | 9, x, y => eqLS x y
  | 29, x, y => eqLI x y
  | 68, x, y => eqLI x y
  | 92, x, y => eqLI x y
  | 97, x, y => eqLI x y
  | 104, x, y => eqLI x y
  | _, _, _ => false
def PToB : (c : Nat) → List (PU c) → Option ByteArray
  | 5, x => some (bytesOf x)
  | _, _ => .none
def POfB : (c : Nat) → ByteArray → Option (List (PU c))
  | 5, x => some (bytesTo x)
  | _, _ => .none
def PGlob : Nat → A PU
  | 0 => .rp false 103 [G_sha_keys] 0 []
  | 1 => .rp false 103 [G_r02_key] 0 []
  | _ => .none
noncomputable def PE : Env PU where
  P := Go.Proofs.Tryd.prog
  tys := PTys
  enc := PEnc
  dec := PDec
  dflt := PDfl
  eqb := PEqb
  ofBytes := POfB
  toBytes := PToB
  cuts := PCuts
  procs := PProcs
  loops := PLoops
  eqs := [34, 36, 38]
  glob := PGlob
  lends := [43]
theorem PEncOk (c : Nat) (x : PU c) : closed (PEnc c x) = true ∧ size PE.sz (PEnc c x) = PE.sz c := by
  unfold PEnc
  split
  · exact ⟨rfl, rfl⟩
  · exact ⟨rfl, rfl⟩
  · exact ⟨rfl, rfl⟩
  · exact ⟨rfl, rfl⟩
  · exact ⟨rfl, rfl⟩
  · exact ⟨rfl, rfl⟩
  · exact ⟨rfl, rfl⟩
  · exact ⟨rfl, rfl⟩
  · exact ⟨rfl, rfl⟩
  · exact ⟨rfl, rfl⟩
  · exact ⟨rfl, rfl⟩
  · exact ⟨rfl, rfl⟩
  · exact ⟨rfl, rfl⟩
  · exact ⟨rfl, rfl⟩
  · exact ⟨rfl, rfl⟩
  · exact ⟨rfl, rfl⟩
  · exact ⟨rfl, rfl⟩
  · exact ⟨rfl, rfl⟩
  · exact ⟨rfl, rfl⟩
  · exact ⟨rfl, rfl⟩
  · exact ⟨rfl, rfl⟩
  · exact ⟨rfl, rfl⟩
  · exact ⟨rfl, rfl⟩
  · exact ⟨rfl, rfl⟩
  · exact ⟨rfl, rfl⟩
  · exact ⟨rfl, rfl⟩
  · exact ⟨rfl, rfl⟩
  · exact ⟨rfl, rfl⟩
  · exact ⟨rfl, rfl⟩
  · exact ⟨rfl, rfl⟩
  · exact ⟨rfl, rfl⟩
  · exact ⟨rfl, rfl⟩
  · exact ⟨rfl, rfl⟩
  · exact ⟨rfl, rfl⟩
  · exact ⟨rfl, rfl⟩
  · exact ⟨rfl, rfl⟩
  · exact ⟨rfl, rfl⟩
  · exact ⟨rfl, rfl⟩
  · exact ⟨rfl, rfl⟩
  · rename_i h3 h4 h5 h9 h22 h23 h24 h26 h27 h29 h34 h36 h38 h43 h44 h49 h50 h52 h54 h56 h57 h65 h66 h68 h70 h74 h77 h78 h79 h89 h90 h92 h93 h95 h96 h97 h102 h103 h104
    refine ⟨rfl, ?_⟩
    show 0 = _
    unfold Env.sz
    have hn : rowOf c PE.tys = .none := by
      refine rowOf_none ?_
      intro r hr
      simp only [PE, PTys, List.mem_cons, List.not_mem_nil, or_false] at hr
      rcases hr with rfl | rfl | rfl | rfl | rfl | rfl | rfl | rfl | rfl | rfl | rfl | rfl | rfl | rfl | rfl | rfl | rfl | rfl | rfl | rfl | rfl | rfl | rfl | rfl | rfl | rfl | rfl | rfl | rfl | rfl | rfl | rfl | rfl | rfl | rfl | rfl | rfl | rfl | rfl <;> intro e <;> subst e
      · exact h3 _ rfl HEq.rfl
      · exact h4 _ rfl HEq.rfl
      · exact h5 _ rfl HEq.rfl
      · exact h9 _ rfl HEq.rfl
      · exact h22 _ rfl HEq.rfl
      · exact h23 _ rfl HEq.rfl
      · exact h24 _ rfl HEq.rfl
      · exact h26 _ rfl HEq.rfl
      · exact h27 _ rfl HEq.rfl
      · exact h29 _ rfl HEq.rfl
      · exact h34 _ rfl HEq.rfl
      · exact h36 _ rfl HEq.rfl
      · exact h38 _ rfl HEq.rfl
      · exact h43 _ rfl HEq.rfl
      · exact h44 _ rfl HEq.rfl
      · exact h49 _ rfl HEq.rfl
      · exact h50 _ rfl HEq.rfl
      · exact h52 _ rfl HEq.rfl
      · exact h54 _ rfl HEq.rfl
      · exact h56 _ rfl HEq.rfl
      · exact h57 _ rfl HEq.rfl
      · exact h65 _ rfl HEq.rfl
      · exact h66 _ rfl HEq.rfl
      · exact h68 _ rfl HEq.rfl
      · exact h70 _ rfl HEq.rfl
      · exact h74 _ rfl HEq.rfl
      · exact h77 _ rfl HEq.rfl
      · exact h78 _ rfl HEq.rfl
      · exact h79 _ rfl HEq.rfl
      · exact h89 _ rfl HEq.rfl
      · exact h90 _ rfl HEq.rfl
      · exact h92 _ rfl HEq.rfl
      · exact h93 _ rfl HEq.rfl
      · exact h95 _ rfl HEq.rfl
      · exact h96 _ rfl HEq.rfl
      · exact h97 _ rfl HEq.rfl
      · exact h102 _ rfl HEq.rfl
      · exact h103 _ rfl HEq.rfl
      · exact h104 _ rfl HEq.rfl
    rw [hn]
theorem PDecOk (c : Nat) (a : A PU) (x : PU c) (h : PDec c a = some x) : PEnc c x = a := by
  unfold PDec at h
  split at h
  · obtain ⟨y1, e1, h1⟩ := Option.bind_eq_some_iff.1 h
    obtain rfl : a = .int .i64 y1 := dInt_ok e1
    cases h1; rfl
  · obtain ⟨y1, e1, h1⟩ := Option.bind_eq_some_iff.1 h
    obtain rfl : a = .bool y1 := dBool_ok e1
    cases h1; rfl
  · obtain ⟨y1, e1, h1⟩ := Option.bind_eq_some_iff.1 h
    obtain rfl : a = .int .u8 y1 := dInt_ok e1
    cases h1; rfl
  · obtain ⟨y1, e1, h1⟩ := Option.bind_eq_some_iff.1 h
    obtain rfl : a = .str y1 := dStr_ok e1
    cases h1; rfl
  · obtain ⟨y1, e1, h1⟩ := Option.bind_eq_some_iff.1 h
    obtain rfl : a = .ro false 54 y1 := dRo_ok e1
    cases h1; rfl
  · obtain ⟨y1, e1, h1⟩ := Option.bind_eq_some_iff.1 h
    obtain rfl : a = .ro false 36 y1 := dRo_ok e1
    cases h1; rfl
  · obtain ⟨y1, e1, h1⟩ := Option.bind_eq_some_iff.1 h
    obtain rfl : a = .ro false 65 y1 := dRo_ok e1
    cases h1; rfl
  · obtain ⟨l1, e1, h1⟩ := Option.bind_eq_some_iff.1 h
    obtain rfl : a = .agg l1 := dAgg_ok e1
    obtain ⟨⟨q2, r2⟩, e2, h2⟩ := Option.bind_eq_some_iff.1 h1
    obtain rfl : l1 = q2 :: r2 := dCons_ok e2
    obtain ⟨y3, e3, h3⟩ := Option.bind_eq_some_iff.1 h2
    obtain rfl : q2 = .int .i64 y3 := dInt_ok e3
    obtain ⟨⟨q4, r4⟩, e4, h4⟩ := Option.bind_eq_some_iff.1 h3
    obtain rfl : r2 = q4 :: r4 := dCons_ok e4
    obtain ⟨y5, e5, h5⟩ := Option.bind_eq_some_iff.1 h4
    obtain rfl : q4 = .ro false 54 y5 := dRo_ok e5
    obtain ⟨⟨q6, r6⟩, e6, h6⟩ := Option.bind_eq_some_iff.1 h5
    obtain rfl : r4 = q6 :: r6 := dCons_ok e6
    obtain ⟨y7, e7, h7⟩ := Option.bind_eq_some_iff.1 h6
    obtain rfl : q6 = .ro false 36 y7 := dRo_ok e7
    obtain ⟨⟨q8, r8⟩, e8, h8⟩ := Option.bind_eq_some_iff.1 h7
    obtain rfl : r6 = q8 :: r8 := dCons_ok e8
    obtain ⟨y9, e9, h9⟩ := Option.bind_eq_some_iff.1 h8
    obtain rfl : q8 = .ro false 65 y9 := dRo_ok e9
    obtain ⟨_, e10, h10⟩ := Option.bind_eq_some_iff.1 h9
    obtain rfl : r8 = [] := dEnd_ok e10
    cases h10; rfl
  · obtain ⟨y1, e1, h1⟩ := Option.bind_eq_some_iff.1 h
    obtain rfl : a = .ro false 38 y1 := dRo_ok e1
    cases h1; rfl
  · obtain ⟨y1, e1, h1⟩ := Option.bind_eq_some_iff.1 h
    obtain rfl : a = .int .i64 y1 := dInt_ok e1
    cases h1; rfl
  · obtain ⟨y1, e1, h1⟩ := Option.bind_eq_some_iff.1 h
    obtain rfl : a = .arr 5 32 y1 := dArr_ok e1
    cases h1; rfl
  · obtain ⟨l1, e1, h1⟩ := Option.bind_eq_some_iff.1 h
    obtain rfl : a = .agg l1 := dAgg_ok e1
    obtain ⟨⟨q2, r2⟩, e2, h2⟩ := Option.bind_eq_some_iff.1 h1
    obtain rfl : l1 = q2 :: r2 := dCons_ok e2
    obtain ⟨y3, e3, h3⟩ := Option.bind_eq_some_iff.1 h2
    obtain rfl : q2 = .int .i64 y3 := dInt_ok e3
    obtain ⟨⟨q4, r4⟩, e4, h4⟩ := Option.bind_eq_some_iff.1 h3
    obtain rfl : r2 = q4 :: r4 := dCons_ok e4
    obtain ⟨y5, e5, h5⟩ := Option.bind_eq_some_iff.1 h4
    obtain rfl : q4 = .arr 5 32 y5 := dArr_ok e5
    obtain ⟨⟨q6, r6⟩, e6, h6⟩ := Option.bind_eq_some_iff.1 h5
    obtain rfl : r4 = q6 :: r6 := dCons_ok e6
    obtain ⟨y7, e7, h7⟩ := Option.bind_eq_some_iff.1 h6
    obtain rfl : q6 = .arr 5 32 y7 := dArr_ok e7
    obtain ⟨_, e8, h8⟩ := Option.bind_eq_some_iff.1 h7
    obtain rfl : r6 = [] := dEnd_ok e8
    cases h8; rfl
  · obtain ⟨l1, e1, h1⟩ := Option.bind_eq_some_iff.1 h
    obtain rfl : a = .agg l1 := dAgg_ok e1
    obtain ⟨⟨q2, r2⟩, e2, h2⟩ := Option.bind_eq_some_iff.1 h1
    obtain rfl : l1 = q2 :: r2 := dCons_ok e2
    obtain ⟨l3, e3, h3⟩ := Option.bind_eq_some_iff.1 h2
    obtain rfl : q2 = .agg l3 := dAgg_ok e3
    obtain ⟨⟨q4, r4⟩, e4, h4⟩ := Option.bind_eq_some_iff.1 h3
    obtain rfl : l3 = q4 :: r4 := dCons_ok e4
    obtain ⟨y5, e5, h5⟩ := Option.bind_eq_some_iff.1 h4
    obtain rfl : q4 = .int .i64 y5 := dInt_ok e5
    obtain ⟨⟨q6, r6⟩, e6, h6⟩ := Option.bind_eq_some_iff.1 h5
    obtain rfl : r4 = q6 :: r6 := dCons_ok e6
    obtain ⟨y7, e7, h7⟩ := Option.bind_eq_some_iff.1 h6
    obtain rfl : q6 = .arr 5 32 y7 := dArr_ok e7
    obtain ⟨⟨q8, r8⟩, e8, h8⟩ := Option.bind_eq_some_iff.1 h7
    obtain rfl : r6 = q8 :: r8 := dCons_ok e8
    obtain ⟨y9, e9, h9⟩ := Option.bind_eq_some_iff.1 h8
    obtain rfl : q8 = .arr 5 32 y9 := dArr_ok e9
    obtain ⟨_, e10, h10⟩ := Option.bind_eq_some_iff.1 h9
    obtain rfl : r8 = [] := dEnd_ok e10
    obtain ⟨⟨q10, r10⟩, e11, h11⟩ := Option.bind_eq_some_iff.1 h10
    obtain rfl : r2 = q10 :: r10 := dCons_ok e11
    obtain ⟨y11, e12, h12⟩ := Option.bind_eq_some_iff.1 h11
    obtain rfl : q10 = .arr 5 32 y11 := dArr_ok e12
    obtain ⟨_, e13, h13⟩ := Option.bind_eq_some_iff.1 h12
    obtain rfl : r10 = [] := dEnd_ok e13
    cases h13; rfl
  · obtain ⟨y1, e1, h1⟩ := Option.bind_eq_some_iff.1 h
    obtain rfl : a = .nilf := dNilf_ok e1
    cases h1; rfl
  · obtain ⟨y1, e1, h1⟩ := Option.bind_eq_some_iff.1 h
    obtain rfl : a = .nilf := dNilf_ok e1
    cases h1; rfl
  · obtain ⟨y1, e1, h1⟩ := Option.bind_eq_some_iff.1 h
    obtain rfl : a = .nilf := dNilf_ok e1
    cases h1; rfl
  · obtain ⟨y1, e1, h1⟩ := Option.bind_eq_some_iff.1 h
    obtain rfl : a = .nilf := dNilf_ok e1
    cases h1; rfl
  · obtain ⟨y1, e1, h1⟩ := Option.bind_eq_some_iff.1 h
    obtain rfl : a = .ro false 70 y1 := dRo_ok e1
    cases h1; rfl
  · obtain ⟨l1, e1, h1⟩ := Option.bind_eq_some_iff.1 h
    obtain rfl : a = .agg l1 := dAgg_ok e1
    obtain ⟨⟨q2, r2⟩, e2, h2⟩ := Option.bind_eq_some_iff.1 h1
    obtain rfl : l1 = q2 :: r2 := dCons_ok e2
    obtain ⟨y3, e3, h3⟩ := Option.bind_eq_some_iff.1 h2
    obtain rfl : q2 = .str y3 := dStr_ok e3
    obtain ⟨⟨q4, r4⟩, e4, h4⟩ := Option.bind_eq_some_iff.1 h3
    obtain rfl : r2 = q4 :: r4 := dCons_ok e4
    obtain ⟨y5, e5, h5⟩ := Option.bind_eq_some_iff.1 h4
    obtain rfl : q4 = .ro false 70 y5 := dRo_ok e5
    obtain ⟨_, e6, h6⟩ := Option.bind_eq_some_iff.1 h5
    obtain rfl : r4 = [] := dEnd_ok e6
    cases h6; rfl
  · obtain ⟨y1, e1, h1⟩ := Option.bind_eq_some_iff.1 h
    obtain rfl : a = .nilf := dNilf_ok e1
    cases h1; rfl
  · obtain ⟨y1, e1, h1⟩ := Option.bind_eq_some_iff.1 h
    obtain rfl : a = .ro false 5 y1 := dRo_ok e1
    cases h1; rfl
  · obtain ⟨l1, e1, h1⟩ := Option.bind_eq_some_iff.1 h
    obtain rfl : a = .agg l1 := dAgg_ok e1
    obtain ⟨⟨q2, r2⟩, e2, h2⟩ := Option.bind_eq_some_iff.1 h1
    obtain rfl : l1 = q2 :: r2 := dCons_ok e2
    obtain ⟨y3, e3, h3⟩ := Option.bind_eq_some_iff.1 h2
    obtain rfl : q2 = .int .i64 y3 := dInt_ok e3
    obtain ⟨⟨q4, r4⟩, e4, h4⟩ := Option.bind_eq_some_iff.1 h3
    obtain rfl : r2 = q4 :: r4 := dCons_ok e4
    obtain ⟨y5, e5, h5⟩ := Option.bind_eq_some_iff.1 h4
    obtain rfl : q4 = .int .i64 y5 := dInt_ok e5
    obtain ⟨⟨q6, r6⟩, e6, h6⟩ := Option.bind_eq_some_iff.1 h5
    obtain rfl : r4 = q6 :: r6 := dCons_ok e6
    obtain ⟨y7, e7, h7⟩ := Option.bind_eq_some_iff.1 h6
    obtain rfl : q6 = .int .i64 y7 := dInt_ok e7
    obtain ⟨⟨q8, r8⟩, e8, h8⟩ := Option.bind_eq_some_iff.1 h7
    obtain rfl : r6 = q8 :: r8 := dCons_ok e8
    obtain ⟨y9, e9, h9⟩ := Option.bind_eq_some_iff.1 h8
    obtain rfl : q8 = .int .i64 y9 := dInt_ok e9
    obtain ⟨_, e10, h10⟩ := Option.bind_eq_some_iff.1 h9
    obtain rfl : r8 = [] := dEnd_ok e10
    cases h10; rfl
  · obtain ⟨y1, e1, h1⟩ := Option.bind_eq_some_iff.1 h
    obtain rfl : a = .nilf := dNilf_ok e1
    cases h1; rfl
  · obtain ⟨y1, e1, h1⟩ := Option.bind_eq_some_iff.1 h
    obtain rfl : a = .int .i64 y1 := dInt_ok e1
    cases h1; rfl
  · obtain ⟨l1, e1, h1⟩ := Option.bind_eq_some_iff.1 h
    obtain rfl : a = .agg l1 := dAgg_ok e1
    obtain ⟨⟨q2, r2⟩, e2, h2⟩ := Option.bind_eq_some_iff.1 h1
    obtain rfl : l1 = q2 :: r2 := dCons_ok e2
    obtain ⟨y3, e3, h3⟩ := Option.bind_eq_some_iff.1 h2
    obtain rfl : q2 = .int .i64 y3 := dInt_ok e3
    obtain ⟨⟨q4, r4⟩, e4, h4⟩ := Option.bind_eq_some_iff.1 h3
    obtain rfl : r2 = q4 :: r4 := dCons_ok e4
    obtain ⟨y5, e5, h5⟩ := Option.bind_eq_some_iff.1 h4
    obtain rfl : q4 = .int .i64 y5 := dInt_ok e5
    obtain ⟨⟨q6, r6⟩, e6, h6⟩ := Option.bind_eq_some_iff.1 h5
    obtain rfl : r4 = q6 :: r6 := dCons_ok e6
    obtain ⟨y7, e7, h7⟩ := Option.bind_eq_some_iff.1 h6
    obtain rfl : q6 = .str y7 := dStr_ok e7
    obtain ⟨_, e8, h8⟩ := Option.bind_eq_some_iff.1 h7
    obtain rfl : r6 = [] := dEnd_ok e8
    cases h8; rfl
  · obtain ⟨y1, e1, h1⟩ := Option.bind_eq_some_iff.1 h
    obtain rfl : a = .arr 5 64 y1 := dArr_ok e1
    cases h1; rfl
  · obtain ⟨y1, e1, h1⟩ := Option.bind_eq_some_iff.1 h
    obtain rfl : a = .nilf := dNilf_ok e1
    cases h1; rfl
  · obtain ⟨y1, e1, h1⟩ := Option.bind_eq_some_iff.1 h
    obtain rfl : a = .nilf := dNilf_ok e1
    cases h1; rfl
  · obtain ⟨y1, e1, h1⟩ := Option.bind_eq_some_iff.1 h
    obtain rfl : a = .nilp := dNilp_ok e1
    cases h1; rfl
  · obtain ⟨y1, e1, h1⟩ := Option.bind_eq_some_iff.1 h
    obtain rfl : a = .nilf := dNilf_ok e1
    cases h1; rfl
  · obtain ⟨y1, e1, h1⟩ := Option.bind_eq_some_iff.1 h
    obtain rfl : a = .nilf := dNilf_ok e1
    cases h1; rfl
  · obtain ⟨y1, e1, h1⟩ := Option.bind_eq_some_iff.1 h
    obtain rfl : a = .int .u32 y1 := dInt_ok e1
    cases h1; rfl
  · obtain ⟨y1, e1, h1⟩ := Option.bind_eq_some_iff.1 h
    obtain rfl : a = .arr 92 8 y1 := dArr_ok e1
    cases h1; rfl
  · obtain ⟨l1, e1, h1⟩ := Option.bind_eq_some_iff.1 h
    obtain rfl : a = .agg l1 := dAgg_ok e1
    obtain ⟨⟨q2, r2⟩, e2, h2⟩ := Option.bind_eq_some_iff.1 h1
    obtain rfl : l1 = q2 :: r2 := dCons_ok e2
    obtain ⟨y3, e3, h3⟩ := Option.bind_eq_some_iff.1 h2
    obtain rfl : q2 = .arr 92 8 y3 := dArr_ok e3
    obtain ⟨⟨q4, r4⟩, e4, h4⟩ := Option.bind_eq_some_iff.1 h3
    obtain rfl : r2 = q4 :: r4 := dCons_ok e4
    obtain ⟨y5, e5, h5⟩ := Option.bind_eq_some_iff.1 h4
    obtain rfl : q4 = .arr 5 64 y5 := dArr_ok e5
    obtain ⟨⟨q6, r6⟩, e6, h6⟩ := Option.bind_eq_some_iff.1 h5
    obtain rfl : r4 = q6 :: r6 := dCons_ok e6
    obtain ⟨y7, e7, h7⟩ := Option.bind_eq_some_iff.1 h6
    obtain rfl : q6 = .int .i64 y7 := dInt_ok e7
    obtain ⟨_, e8, h8⟩ := Option.bind_eq_some_iff.1 h7
    obtain rfl : r6 = [] := dEnd_ok e8
    cases h8; rfl
  · obtain ⟨y1, e1, h1⟩ := Option.bind_eq_some_iff.1 h
    obtain rfl : a = .arr 5 72 y1 := dArr_ok e1
    cases h1; rfl
  · obtain ⟨y1, e1, h1⟩ := Option.bind_eq_some_iff.1 h
    obtain rfl : a = .int .u64 y1 := dInt_ok e1
    cases h1; rfl
  · obtain ⟨y1, e1, h1⟩ := Option.bind_eq_some_iff.1 h
    obtain rfl : a = .nilf := dNilf_ok e1
    cases h1; rfl
  · obtain ⟨y1, e1, h1⟩ := Option.bind_eq_some_iff.1 h
    obtain rfl : a = .arr 92 64 y1 := dArr_ok e1
    cases h1; rfl
  · obtain ⟨y1, e1, h1⟩ := Option.bind_eq_some_iff.1 h
    obtain rfl : a = .int .u64 y1 := dInt_ok e1
    cases h1; rfl
  · cases h
theorem PPlain : ∀ r ∈ PE.tys, plainTy r.ty = true → PlainOk PE r.t :=
  List.forall_mem_cons.2 ⟨(fun _ => ⟨fun l m => eqLI_iff l m, fun x y => ⟨decI x y, rfl, decI_iff x y⟩⟩),
  List.forall_mem_cons.2 ⟨(fun _ => ⟨fun l m => eqLB_iff l m, fun x y => ⟨decB x y, rfl, decB_iff x y⟩⟩),
  List.forall_mem_cons.2 ⟨(fun _ => ⟨fun l m => eqLI_iff l m, fun x y => ⟨decI x y, rfl, decI_iff x y⟩⟩),
  List.forall_mem_cons.2 ⟨(fun _ => ⟨fun l m => eqLS_iff l m, fun x y => ⟨seq x y, rfl, seq_iff⟩⟩),
  List.forall_mem_cons.2 ⟨(fun h => nomatch h),
  List.forall_mem_cons.2 ⟨(fun h => nomatch h),
  List.forall_mem_cons.2 ⟨(fun h => nomatch h),
  List.forall_mem_cons.2 ⟨(fun h => nomatch h),
  List.forall_mem_cons.2 ⟨(fun h => nomatch h),
  List.forall_mem_cons.2 ⟨(fun _ => ⟨fun l m => eqLI_iff l m, fun x y => ⟨decI x y, rfl, decI_iff x y⟩⟩),
  List.forall_mem_cons.2 ⟨(fun h => nomatch h),
  List.forall_mem_cons.2 ⟨(fun h => nomatch h),
  List.forall_mem_cons.2 ⟨(fun h => nomatch h),
  List.forall_mem_cons.2 ⟨(fun h => nomatch h),
  List.forall_mem_cons.2 ⟨(fun h => nomatch h),
  List.forall_mem_cons.2 ⟨(fun h => nomatch h),
  List.forall_mem_cons.2 ⟨(fun h => nomatch h),
  List.forall_mem_cons.2 ⟨(fun h => nomatch h),
  List.forall_mem_cons.2 ⟨(fun h => nomatch h),
  List.forall_mem_cons.2 ⟨(fun h => nomatch h),
  List.forall_mem_cons.2 ⟨(fun h => nomatch h),
  List.forall_mem_cons.2 ⟨(fun h => nomatch h),
  List.forall_mem_cons.2 ⟨(fun h => nomatch h),
  List.forall_mem_cons.2 ⟨(fun _ => ⟨fun l m => eqLI_iff l m, fun x y => ⟨decI x y, rfl, decI_iff x y⟩⟩),
  List.forall_mem_cons.2 ⟨(fun h => nomatch h),
  List.forall_mem_cons.2 ⟨(fun h => nomatch h),
  List.forall_mem_cons.2 ⟨(fun h => nomatch h),
  List.forall_mem_cons.2 ⟨(fun h => nomatch h),
  List.forall_mem_cons.2 ⟨(fun h => nomatch h),
  List.forall_mem_cons.2 ⟨(fun h => nomatch h),
  List.forall_mem_cons.2 ⟨(fun h => nomatch h),
  List.forall_mem_cons.2 ⟨(fun _ => ⟨fun l m => eqLI_iff l m, fun x y => ⟨decI x y, rfl, decI_iff x y⟩⟩),
  List.forall_mem_cons.2 ⟨(fun h => nomatch h),
  List.forall_mem_cons.2 ⟨(fun h => nomatch h),
  List.forall_mem_cons.2 ⟨(fun h => nomatch h),
  List.forall_mem_cons.2 ⟨(fun _ => ⟨fun l m => eqLI_iff l m, fun x y => ⟨decI x y, rfl, decI_iff x y⟩⟩),
  List.forall_mem_cons.2 ⟨(fun h => nomatch h),
  List.forall_mem_cons.2 ⟨(fun h => nomatch h),
  List.forall_mem_cons.2 ⟨(fun _ => ⟨fun l m => eqLI_iff l m, fun x y => ⟨decI x y, rfl, decI_iff x y⟩⟩),
  (fun _ h => nomatch h)⟩⟩⟩⟩⟩⟩⟩⟩⟩⟩⟩⟩⟩⟩⟩⟩⟩⟩⟩⟩⟩⟩⟩⟩⟩⟩⟩⟩⟩⟩⟩⟩⟩⟩⟩⟩⟩⟩⟩
theorem PToBOk (c : Nat) (l : List (PU c)) (t : ByteArray) (h : PToB c l = some t) : PE.ty c = .int .u8 ∧ ∃ ns : List Int, l.map (PE.enc c) = ns.map (.int .u8) ∧ t = bytesOf ns := by
  unfold PToB at h
  split at h
  · rename_i x; cases h; exact ⟨rfl, x, List.map_congr_left fun _ _ => rfl, rfl⟩
  · cases h
theorem POfBOk (c : Nat) (t : ByteArray) (l : List (PU c)) (h : POfB c t = some l) : PE.ty c = .int .u8 ∧ l.map (PE.enc c) = (bytesTo t).map (.int .u8) := by
  unfold POfB at h
  split at h
  · cases h; exact ⟨rfl, List.map_congr_left fun _ _ => rfl⟩
  · cases h
theorem PGlobOk (g : Nat) : loan (PGlob g) = false ∧ noTupG (PGlob g) = true := by
  unfold PGlob
  split <;> exact ⟨rfl, rfl⟩
theorem PEok : EnvOk2 PE := envOk_of PE ⟨fun c x => (PEncOk c x).1, fun c x => (PEncOk c x).2, PDecOk⟩ (by kernel_rfl) (by kernel_rfl) ⟨PGlobOk, eqA_of PPlain, by kernel_rfl, PToBOk, POfBOk⟩
end Go.V
