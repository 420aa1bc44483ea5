import Derived.Test.YtepdmpjmlfeanaaGreatDoorVZ16F
import Derived.Test.YtepdmpjmlfeanaaGreatDoorProg
set_option linter.unusedVariables false
namespace Go.V
open Go
def PX : Nat → (α : Type) × α
  | 1 => ⟨Unit, ()⟩
  | 3 => ⟨Int, (0 : Int)⟩
  | 4 => ⟨Bool, false⟩
  | 5 => ⟨Int, (0 : Int)⟩
  | 21 => ⟨Int, (0 : Int)⟩
  | 22 => ⟨(List S_api_Leaf), ([] : List S_api_Leaf)⟩
  | 24 => ⟨(List Int), (List.replicate 32 (0 : Int))⟩
  | 26 => ⟨S_api_Claim, (S_api_Claim.mk false (List.replicate 32 (0 : Int)))⟩
  | 27 => ⟨(List (List Int)), ([] : List (List Int))⟩
  | 29 => ⟨S_api_Proof, (S_api_Proof.mk ([] : List (List Int)) false (List.replicate 32 (0 : Int)) (List.replicate 32 (0 : Int)))⟩
  | 30 => ⟨Int, (0 : Int)⟩
  | 42 => ⟨S_api_Leaf, (S_api_Leaf.mk (List.replicate 32 (0 : Int)) (List.replicate 32 (0 : Int)))⟩
  | 51 => ⟨Unit, ()⟩
  | 60 => ⟨Unit, ()⟩
  | 64 => ⟨Unit, ()⟩
  | 66 => ⟨S_smt_Tree, (S_smt_Tree.mk (0 : Int) (0 : Int) ())⟩
  | 70 => ⟨Unit, ()⟩
  | 73 => ⟨(List Int), ([] : List Int)⟩
  | 80 => ⟨Unit, ()⟩
  | 82 => ⟨S_sync_noCopy, (S_sync_noCopy.mk )⟩
  | 83 => ⟨S_sync_noCopy, (S_sync_noCopy.mk )⟩
  | 84 => ⟨Int, (0 : Int)⟩
  | 86 => ⟨S_sync_atomic_Bool, (S_sync_atomic_Bool.mk (S_sync_noCopy.mk ) (0 : Int))⟩
  | 88 => ⟨S_internal_sync_Mutex, (S_internal_sync_Mutex.mk (0 : Int) (0 : Int))⟩
  | 90 => ⟨S_sync_Mutex, (S_sync_Mutex.mk (S_sync_noCopy.mk ) (S_internal_sync_Mutex.mk (0 : Int) (0 : Int)))⟩
  | 92 => ⟨S_sync_Once, (S_sync_Once.mk (S_sync_noCopy.mk ) (S_sync_atomic_Bool.mk (S_sync_noCopy.mk ) (0 : Int)) (S_sync_Mutex.mk (S_sync_noCopy.mk ) (S_internal_sync_Mutex.mk (0 : Int) (0 : Int))))⟩
  | 94 => ⟨S_smt_made, (S_smt_made.mk (S_sync_Once.mk (S_sync_noCopy.mk ) (S_sync_atomic_Bool.mk (S_sync_noCopy.mk ) (0 : Int)) (S_sync_Mutex.mk (S_sync_noCopy.mk ) (S_internal_sync_Mutex.mk (0 : Int) (0 : Int)))) (List.replicate 32 (0 : Int)))⟩
  | 96 => ⟨S_smt_knot, (S_smt_knot.mk (S_smt_made.mk (S_sync_Once.mk (S_sync_noCopy.mk ) (S_sync_atomic_Bool.mk (S_sync_noCopy.mk ) (0 : Int)) (S_sync_Mutex.mk (S_sync_noCopy.mk ) (S_internal_sync_Mutex.mk (0 : Int) (0 : Int)))) (List.replicate 32 (0 : Int))) (S_api_Leaf.mk (List.replicate 32 (0 : Int)) (List.replicate 32 (0 : Int))) () ())⟩
  | 98 => ⟨(List Int), (List.replicate 8 (0 : Int))⟩
  | 99 => ⟨(List Int), (List.replicate 64 (0 : Int))⟩
  | 101 => ⟨S_sha_Hash, (S_sha_Hash.mk (List.replicate 8 (0 : Int)) (List.replicate 64 (0 : Int)) (0 : Int))⟩
  | 102 => ⟨(List Int), (List.replicate 72 (0 : Int))⟩
  | 103 => ⟨Int, (0 : Int)⟩
  | 107 => ⟨Int, (0 : Int)⟩
  | 110 => ⟨(List Int), (List.replicate 64 (0 : Int))⟩
  | _ => ⟨Unit, ()⟩
def PU (c : Nat) : Type := (PX c).1
def PEnc : (c : Nat) → PU c → A PU
  | 1, (x : Unit) => .nilf
  | 3, (x : Int) => .int .i64 x
  | 4, (x : Bool) => .bool x
  | 5, (x : Int) => .int .u8 x
  | 21, (x : Int) => .int .i32 x
  | 22, (x : (List S_api_Leaf)) => .ro false 42 x
  | 24, (x : (List Int)) => .arr 5 32 x
  | 26, (x : S_api_Claim) => .agg [.bool x.f0, .arr 5 32 x.f1]
  | 27, (x : (List (List Int))) => .ro false 24 x
  | 29, (x : S_api_Proof) => .agg [.ro false 24 x.f0, .bool x.f1, .arr 5 32 x.f2, .arr 5 32 x.f3]
  | 30, (x : Int) => .int .i64 x
  | 42, (x : S_api_Leaf) => .agg [.arr 5 32 x.f0, .arr 5 32 x.f1]
  | 51, (x : Unit) => .nilp
  | 60, (x : Unit) => .nilf
  | 64, (x : Unit) => .nilp
  | 66, (x : S_smt_Tree) => .agg [.int .i64 x.f0, .int .i64 x.f1, .nilp]
  | 70, (x : Unit) => .nilp
  | 73, (x : (List Int)) => .ro false 5 x
  | 80, (x : Unit) => .nilf
  | 82, (x : S_sync_noCopy) => .agg []
  | 83, (x : S_sync_noCopy) => .agg []
  | 84, (x : Int) => .int .u32 x
  | 86, (x : S_sync_atomic_Bool) => .agg [.agg [], .int .u32 x.f1]
  | 88, (x : S_internal_sync_Mutex) => .agg [.int .i32 x.f0, .int .u32 x.f1]
  | 90, (x : S_sync_Mutex) => .agg [.agg [], .agg [.int .i32 x.f1.f0, .int .u32 x.f1.f1]]
  | 92, (x : S_sync_Once) => .agg [.agg [], .agg [.agg [], .int .u32 x.f1.f1], .agg [.agg [], .agg [.int .i32 x.f2.f1.f0, .int .u32 x.f2.f1.f1]]]
  | 94, (x : S_smt_made) => .agg [.agg [.agg [], .agg [.agg [], .int .u32 x.f0.f1.f1], .agg [.agg [], .agg [.int .i32 x.f0.f2.f1.f0, .int .u32 x.f0.f2.f1.f1]]], .arr 5 32 x.f1]
  | 96, (x : S_smt_knot) => .agg [.agg [.agg [.agg [], .agg [.agg [], .int .u32 x.f0.f0.f1.f1], .agg [.agg [], .agg [.int .i32 x.f0.f0.f2.f1.f0, .int .u32 x.f0.f0.f2.f1.f1]]], .arr 5 32 x.f0.f1], .agg [.arr 5 32 x.f1.f0, .arr 5 32 x.f1.f1], .nilp, .nilp]
  | 98, (x : (List Int)) => .arr 84 8 x
  | 99, (x : (List Int)) => .arr 5 64 x
  | 101, (x : S_sha_Hash) => .agg [.arr 84 8 x.f0, .arr 5 64 x.f1, .int .i64 x.f2]
  | 102, (x : (List Int)) => .arr 5 72 x
  | 103, (x : Int) => .int .u64 x
  | 107, (x : Int) => .int .u64 x
  | 110, (x : (List Int)) => .arr 84 64 x
  | _, _ => .agg []
def PDec : (c : Nat) → A PU → Option (PU c)
  | 1, a => (dNilf a).bind fun y1 => some y1
  | 3, a => (dInt .i64 a).bind fun y1 => some y1
  | 4, a => (dBool a).bind fun y1 => some y1
  | 5, a => (dInt .u8 a).bind fun y1 => some y1
  | 21, a => (dInt .i32 a).bind fun y1 => some y1
  | 22, a => (dRo 42 a).bind fun y1 => some y1
  | 24, a => (dArr 5 32 a).bind fun y1 => some y1
  | 26, a => (dAgg a).bind fun l1 => (dCons l1).bind fun p2 => (dBool p2.1).bind fun y3 => (dCons p2.2).bind fun p4 => (dArr 5 32 p4.1).bind fun y5 => (dEnd p4.2).bind fun _ => some (S_api_Claim.mk y3 y5)
  | 27, a => (dRo 24 a).bind fun y1 => some y1
  | 29, a => (dAgg a).bind fun l1 => (dCons l1).bind fun p2 => (dRo 24 p2.1).bind fun y3 => (dCons p2.2).bind fun p4 => (dBool p4.1).bind fun y5 => (dCons p4.2).bind fun p6 => (dArr 5 32 p6.1).bind fun y7 => (dCons p6.2).bind fun p8 => (dArr 5 32 p8.1).bind fun y9 => (dEnd p8.2).bind fun _ => some (S_api_Proof.mk y3 y5 y7 y9)
  | 30, a => (dInt .i64 a).bind fun y1 => some y1
  | 42, a => (dAgg a).bind fun l1 => (dCons l1).bind fun p2 => (dArr 5 32 p2.1).bind fun y3 => (dCons p2.2).bind fun p4 => (dArr 5 32 p4.1).bind fun y5 => (dEnd p4.2).bind fun _ => some (S_api_Leaf.mk y3 y5)
  | 51, a => (dNilp a).bind fun y1 => some y1
  | 60, a => (dNilf a).bind fun y1 => some y1
  | 64, a => (dNilp a).bind fun y1 => some y1
  | 66, a => (dAgg a).bind fun l1 => (dCons l1).bind fun p2 => (dInt .i64 p2.1).bind fun y3 => (dCons p2.2).bind fun p4 => (dInt .i64 p4.1).bind fun y5 => (dCons p4.2).bind fun p6 => (dNilp p6.1).bind fun y7 => (dEnd p6.2).bind fun _ => some (S_smt_Tree.mk y3 y5 y7)
  | 70, a => (dNilp a).bind fun y1 => some y1
  | 73, a => (dRo 5 a).bind fun y1 => some y1
  | 80, a => (dNilf a).bind fun y1 => some y1
  | 82, a => (dAgg a).bind fun l1 => (dEnd l1).bind fun _ => some (S_sync_noCopy.mk )
  | 83, a => (dAgg a).bind fun l1 => (dEnd l1).bind fun _ => some (S_sync_noCopy.mk )
  | 84, a => (dInt .u32 a).bind fun y1 => some y1
  | 86, a => (dAgg a).bind fun l1 => (dCons l1).bind fun p2 => (dAgg p2.1).bind fun l3 => (dEnd l3).bind fun _ => (dCons p2.2).bind fun p4 => (dInt .u32 p4.1).bind fun y5 => (dEnd p4.2).bind fun _ => some (S_sync_atomic_Bool.mk (S_sync_noCopy.mk ) y5)
  | 88, a => (dAgg a).bind fun l1 => (dCons l1).bind fun p2 => (dInt .i32 p2.1).bind fun y3 => (dCons p2.2).bind fun p4 => (dInt .u32 p4.1).bind fun y5 => (dEnd p4.2).bind fun _ => some (S_internal_sync_Mutex.mk y3 y5)
  | 90, a => (dAgg a).bind fun l1 => (dCons l1).bind fun p2 => (dAgg p2.1).bind fun l3 => (dEnd l3).bind fun _ => (dCons p2.2).bind fun p4 => (dAgg p4.1).bind fun l5 => (dCons l5).bind fun p6 => (dInt .i32 p6.1).bind fun y7 => (dCons p6.2).bind fun p8 => (dInt .u32 p8.1).bind fun y9 => (dEnd p8.2).bind fun _ => (dEnd p4.2).bind fun _ => some (S_sync_Mutex.mk (S_sync_noCopy.mk ) (S_internal_sync_Mutex.mk y7 y9))
  | 92, a => (dAgg a).bind fun l1 => (dCons l1).bind fun p2 => (dAgg p2.1).bind fun l3 => (dEnd l3).bind fun _ => (dCons p2.2).bind fun p4 => (dAgg p4.1).bind fun l5 => (dCons l5).bind fun p6 => (dAgg p6.1).bind fun l7 => (dEnd l7).bind fun _ => (dCons p6.2).bind fun p8 => (dInt .u32 p8.1).bind fun y9 => (dEnd p8.2).bind fun _ => (dCons p4.2).bind fun p10 => (dAgg p10.1).bind fun l11 => (dCons l11).bind fun p12 => (dAgg p12.1).bind fun l13 => (dEnd l13).bind fun _ => (dCons p12.2).bind fun p14 => (dAgg p14.1).bind fun l15 => (dCons l15).bind fun p16 => (dInt .i32 p16.1).bind fun y17 => (dCons p16.2).bind fun p18 => (dInt .u32 p18.1).bind fun y19 => (dEnd p18.2).bind fun _ => (dEnd p14.2).bind fun _ => (dEnd p10.2).bind fun _ => some (S_sync_Once.mk (S_sync_noCopy.mk ) (S_sync_atomic_Bool.mk (S_sync_noCopy.mk ) y9) (S_sync_Mutex.mk (S_sync_noCopy.mk ) (S_internal_sync_Mutex.mk y17 y19)))
  | 94, a => (dAgg a).bind fun l1 => (dCons l1).bind fun p2 => (dAgg p2.1).bind fun l3 => (dCons l3).bind fun p4 => (dAgg p4.1).bind fun l5 => (dEnd l5).bind fun _ => (dCons p4.2).bind fun p6 => (dAgg p6.1).bind fun l7 => (dCons l7).bind fun p8 => (dAgg p8.1).bind fun l9 => (dEnd l9).bind fun _ => (dCons p8.2).bind fun p10 => (dInt .u32 p10.1).bind fun y11 => (dEnd p10.2).bind fun _ => (dCons p6.2).bind fun p12 => (dAgg p12.1).bind fun l13 => (dCons l13).bind fun p14 => (dAgg p14.1).bind fun l15 => (dEnd l15).bind fun _ => (dCons p14.2).bind fun p16 => (dAgg p16.1).bind fun l17 => (dCons l17).bind fun p18 => (dInt .i32 p18.1).bind fun y19 => (dCons p18.2).bind fun p20 => (dInt .u32 p20.1).bind fun y21 => (dEnd p20.2).bind fun _ => (dEnd p16.2).bind fun _ => (dEnd p12.2).bind fun _ => (dCons p2.2).bind fun p22 => (dArr 5 32 p22.1).bind fun y23 => (dEnd p22.2).bind fun _ => some (S_smt_made.mk (S_sync_Once.mk (S_sync_noCopy.mk ) (S_sync_atomic_Bool.mk (S_sync_noCopy.mk ) y11) (S_sync_Mutex.mk (S_sync_noCopy.mk ) (S_internal_sync_Mutex.mk y19 y21))) y23)
  | 96, a => (dAgg a).bind fun l1 => (dCons l1).bind fun p2 => (dAgg p2.1).bind fun l3 => (dCons l3).bind fun p4 => (dAgg p4.1).bind fun l5 => (dCons l5).bind fun p6 => (dAgg p6.1).bind fun l7 => (dEnd l7).bind fun _ => (dCons p6.2).bind fun p8 => (dAgg p8.1).bind fun l9 => (dCons l9).bind fun p10 => (dAgg p10.1).bind fun l11 => (dEnd l11).bind fun _ => (dCons p10.2).bind fun p12 => (dInt .u32 p12.1).bind fun y13 => (dEnd p12.2).bind fun _ => (dCons p8.2).bind fun p14 => (dAgg p14.1).bind fun l15 => (dCons l15).bind fun p16 => (dAgg p16.1).bind fun l17 => (dEnd l17).bind fun _ => (dCons p16.2).bind fun p18 => (dAgg p18.1).bind fun l19 => (dCons l19).bind fun p20 => (dInt .i32 p20.1).bind fun y21 => (dCons p20.2).bind fun p22 => (dInt .u32 p22.1).bind fun y23 => (dEnd p22.2).bind fun _ => (dEnd p18.2).bind fun _ => (dEnd p14.2).bind fun _ => (dCons p4.2).bind fun p24 => (dArr 5 32 p24.1).bind fun y25 => (dEnd p24.2).bind fun _ => (dCons p2.2).bind fun p26 => (dAgg p26.1).bind fun l27 => (dCons l27).bind fun p28 => (dArr 5 32 p28.1).bind fun y29 => (dCons p28.2).bind fun p30 => (dArr 5 32 p30.1).bind fun y31 => (dEnd p30.2).bind fun _ => (dCons p26.2).bind fun p32 => (dNilp p32.1).bind fun y33 => (dCons p32.2).bind fun p34 => (dNilp p34.1).bind fun y35 => (dEnd p34.2).bind fun _ => some (S_smt_knot.mk (S_smt_made.mk (S_sync_Once.mk (S_sync_noCopy.mk ) (S_sync_atomic_Bool.mk (S_sync_noCopy.mk ) y13) (S_sync_Mutex.mk (S_sync_noCopy.mk ) (S_internal_sync_Mutex.mk y21 y23))) y25) (S_api_Leaf.mk y29 y31) y33 y35)
  | 98, a => (dArr 84 8 a).bind fun y1 => some y1
  | 99, a => (dArr 5 64 a).bind fun y1 => some y1
  | 101, a => (dAgg a).bind fun l1 => (dCons l1).bind fun p2 => (dArr 84 8 p2.1).bind fun y3 => (dCons p2.2).bind fun p4 => (dArr 5 64 p4.1).bind fun y5 => (dCons p4.2).bind fun p6 => (dInt .i64 p6.1).bind fun y7 => (dEnd p6.2).bind fun _ => some (S_sha_Hash.mk y3 y5 y7)
  | 102, a => (dArr 5 72 a).bind fun y1 => some y1
  | 103, a => (dInt .u64 a).bind fun y1 => some y1
  | 107, a => (dInt .u64 a).bind fun y1 => some y1
  | 110, a => (dArr 84 64 a).bind fun y1 => some y1
  | _, _ => .none
def PDfl (c : Nat) : PU c := (PX c).2
def PTys : List Row := [⟨1, .func, 1, 8⟩,
  ⟨3, .int .i64, 1, 8⟩,
  ⟨4, .bool, 1, 1⟩,
  ⟨5, .int .u8, 1, 1⟩,
  ⟨21, .int .i32, 1, 4⟩,
  ⟨22, .sl 42, 1, 24⟩,
  ⟨24, .arr 32 5, 32, 32⟩,
  ⟨26, .st [(4, 0), (24, 1)], 33, 33⟩,
  ⟨27, .sl 24, 1, 24⟩,
  ⟨29, .st [(27, 0), (4, 1), (24, 2), (24, 34)], 66, 96⟩,
  ⟨30, .int .i64, 1, 8⟩,
  ⟨42, .st [(24, 0), (24, 32)], 64, 64⟩,
  ⟨51, .ptr 66, 1, 8⟩,
  ⟨60, .func, 1, 8⟩,
  ⟨64, .ptr 96, 1, 8⟩,
  ⟨66, .st [(3, 0), (3, 1), (64, 2)], 3, 24⟩,
  ⟨70, .ptr 101, 1, 8⟩,
  ⟨73, .sl 5, 1, 24⟩,
  ⟨80, .func, 1, 8⟩,
  ⟨82, .st [], 0, 0⟩,
  ⟨83, .st [], 0, 0⟩,
  ⟨84, .int .u32, 1, 4⟩,
  ⟨86, .st [(83, 0), (84, 0)], 1, 4⟩,
  ⟨88, .st [(21, 0), (84, 1)], 2, 8⟩,
  ⟨90, .st [(82, 0), (88, 0)], 2, 8⟩,
  ⟨92, .st [(82, 0), (86, 0), (90, 1)], 3, 12⟩,
  ⟨94, .st [(92, 0), (24, 3)], 35, 44⟩,
  ⟨96, .st [(94, 0), (42, 35), (64, 99), (64, 100)], 101, 128⟩,
  ⟨98, .arr 8 84, 8, 32⟩,
  ⟨99, .arr 64 5, 64, 64⟩,
  ⟨101, .st [(98, 0), (99, 8), (3, 72)], 73, 104⟩,
  ⟨102, .arr 72 5, 72, 72⟩,
  ⟨103, .int .u64, 1, 8⟩,
  ⟨107, .int .u64, 1, 8⟩,
  ⟨110, .arr 64 84, 64, 256⟩]
def PCuts : List (FuncId × Nat × List Nat) := [(23, 9, [0, 5, 6, 29, 30, 31]), (50, 2, [0, 1, 9, 10, 11]), (36, 4, [0, 9, 10]), (37, 5, [3, 4, 6, 7]), (37, 11, [4]), (38, 8, [0, 2, 4]), (38, 3, [0, 2, 4]), (38, 9, [2, 4, 8]), (55, 2, [0, 2, 25]), (55, 14, [0, 9, 10, 11, 12, 13, 14, 15, 16, 140, 141]), (55, 23, [0, 210, 211]), (55, 11, [0, 2, 25]), (42, 3, [0, 1]), (44, 9, [0, 2, 3, 4, 5, 6, 22]), (44, 15, [2, 3, 4, 45]), (43, 4, [4, 5]), (30, 4, [0, 6, 7, 15, 16, 17]), (10, 2, [1, 4, 6, 7]), (10, 4, [1, 4, 6]), (10, 5, [4, 6, 8]), (10, 3, [4, 7]), (10, 6, [4, 8]), (27, 2, [0, 1, 7, 8]), (13, 11, [0, 5, 6, 8, 9, 39, 40, 41]), (13, 16, [0, 5, 6, 8, 9, 39, 40, 41]), (4, 6, [0, 5, 6, 7, 11, 12]), (4, 10, [0, 5, 6, 7, 12, 13, 14, 35, 36, 37]), (4, 22, [6, 7]), (4, 15, [0, 5, 6, 7, 12, 13, 14, 35, 36, 37]), (6, 2, [0, 3]), (6, 5, [0, 3, 4]), (63, 4, [0, 3]), (63, 8, [3, 4, 5]), (65, 3, [1, 2, 4, 5, 6]), (65, 7, [2, 4, 5, 7]), (65, 14, [2, 4, 5, 10, 11]), (65, 22, [2, 4, 10, 16]), (56, 4, [2, 3, 4, 5]), (56, 9, [2, 4, 6, 7]), (45, 6, [0, 4, 6, 7, 8]), (31, 3, [0, 3, 4]), (20, 3, [0, 1, 2, 7, 8]), (20, 4, [0, 1, 2, 7, 8]), (18, 2, [0, 3, 4, 6]), (8, 9, [0, 5, 6, 7, 12, 13, 14, 15, 16]), (8, 19, [6, 7, 13, 14]), (8, 15, [6, 7, 12, 13, 14, 15]), (8, 11, [0, 5, 6, 7, 12, 13, 14, 15, 16]), (8, 17, [6, 7, 13, 14, 15]), (8, 12, [0, 5, 6, 7, 12, 13, 14, 15, 16, 17]), (8, 18, [6, 7, 13, 14, 15]), (8, 13, [0, 5, 6, 7, 12, 13, 14, 15, 16, 17, 18]), (9, 4, [2, 3, 5]), (3, 10, [9, 10])]
def PProcs : List FuncId := [22, 23, 24, 27, 28, 37, 41, 42, 44, 48, 51, 54, 55]
def PLoops : List (FuncId × Nat × List Nat) := []
def PEqb : (c : Nat) → List (PU c) → List (PU c) → Bool
  | 3, x, y => eqLI x y
  | 4, x, y => eqLB x y
  | 5, x, y => eqLI x y
  | 21, x, y => eqLI x y
  | 30, x, y => eqLI x y
  | 84, x, y => eqLI x y
  | 103, x, y => eqLI x y
  | 107, x, y => eqLI x y
  | _, _, _ => false
def PToB : (c : Nat) → List (PU c) → Option ByteArray
  | 5, x => some (bytesOf x)
  | _, _ => .none
def POfB : (c : Nat) → ByteArray → Option (List (PU c))
  | 5, x => some (bytesTo x)
  | _, _ => .none
def PGlob : Nat → A PU
  | 0 => .rp false 110 [G_sha_keys] 0 []
  | 1 => .rp false 110 [G_r02_key] 0 []
  | _ => .none
def PKn : Kn PU := { kp := 64, ks := 96, c := 42, mz := .agg [.gh 0, .arr 5 32 []], dc := 5, dn := 32, dg := fun g x => .arr 5 32 (digT g x) }
noncomputable def PE : Env PU where
  P := Go.Proofs.Tryz.prog
  kn := PKn
  tys := PTys
  enc := PEnc
  dec := PDec
  dflt := PDfl
  eqb := PEqb
  ofBytes := POfB
  toBytes := PToB
  cuts := PCuts
  procs := PProcs
  loops := PLoops
  eqs := [24, 26]
  glob := PGlob
  lends := [42]
theorem PEncOk (c : Nat) (x : PU c) : closed (PEnc c x) = true ∧ size PE.sz (PEnc c x) = PE.sz c := by
  unfold PEnc
  split
  · exact ⟨rfl, rfl⟩
  · exact ⟨rfl, rfl⟩
  · exact ⟨rfl, rfl⟩
  · exact ⟨rfl, rfl⟩
  · exact ⟨rfl, rfl⟩
  · exact ⟨rfl, rfl⟩
  · exact ⟨rfl, rfl⟩
  · exact ⟨rfl, rfl⟩
  · exact ⟨rfl, rfl⟩
  · exact ⟨rfl, rfl⟩
  · exact ⟨rfl, rfl⟩
  · exact ⟨rfl, rfl⟩
  · exact ⟨rfl, rfl⟩
  · exact ⟨rfl, rfl⟩
  · exact ⟨rfl, rfl⟩
  · exact ⟨rfl, rfl⟩
  · exact ⟨rfl, rfl⟩
  · exact ⟨rfl, rfl⟩
  · exact ⟨rfl, rfl⟩
  · exact ⟨rfl, rfl⟩
  · exact ⟨rfl, rfl⟩
  · exact ⟨rfl, rfl⟩
  · exact ⟨rfl, rfl⟩
  · exact ⟨rfl, rfl⟩
  · exact ⟨rfl, rfl⟩
  · exact ⟨rfl, rfl⟩
  · exact ⟨rfl, rfl⟩
  · exact ⟨rfl, rfl⟩
  · exact ⟨rfl, rfl⟩
  · exact ⟨rfl, rfl⟩
  · exact ⟨rfl, rfl⟩
  · exact ⟨rfl, rfl⟩
  · exact ⟨rfl, rfl⟩
  · exact ⟨rfl, rfl⟩
  · exact ⟨rfl, rfl⟩
  · rename_i h1 h3 h4 h5 h21 h22 h24 h26 h27 h29 h30 h42 h51 h60 h64 h66 h70 h73 h80 h82 h83 h84 h86 h88 h90 h92 h94 h96 h98 h99 h101 h102 h103 h107 h110
    refine ⟨rfl, ?_⟩
    show 0 = _
    unfold Env.sz
    have hn : rowOf c PE.tys = .none := by
      refine rowOf_none ?_
      intro r hr
      simp only [PE, PTys, List.mem_cons, List.not_mem_nil, or_false] at hr
      rcases hr with rfl | rfl | rfl | rfl | rfl | rfl | rfl | rfl | rfl | rfl | rfl | rfl | rfl | rfl | rfl | rfl | rfl | rfl | rfl | rfl | rfl | rfl | rfl | rfl | rfl | rfl | rfl | rfl | rfl | rfl | rfl | rfl | rfl | rfl | rfl <;> intro e <;> subst e
      · exact h1 _ rfl HEq.rfl
      · exact h3 _ rfl HEq.rfl
      · exact h4 _ rfl HEq.rfl
      · exact h5 _ rfl HEq.rfl
      · exact h21 _ rfl HEq.rfl
      · exact h22 _ rfl HEq.rfl
      · exact h24 _ rfl HEq.rfl
      · exact h26 _ rfl HEq.rfl
      · exact h27 _ rfl HEq.rfl
      · exact h29 _ rfl HEq.rfl
      · exact h30 _ rfl HEq.rfl
      · exact h42 _ rfl HEq.rfl
      · exact h51 _ rfl HEq.rfl
      · exact h60 _ rfl HEq.rfl
      · exact h64 _ rfl HEq.rfl
      · exact h66 _ rfl HEq.rfl
      · exact h70 _ rfl HEq.rfl
      · exact h73 _ rfl HEq.rfl
      · exact h80 _ rfl HEq.rfl
      · exact h82 _ rfl HEq.rfl
      · exact h83 _ rfl HEq.rfl
      · exact h84 _ rfl HEq.rfl
      · exact h86 _ rfl HEq.rfl
      · exact h88 _ rfl HEq.rfl
      · exact h90 _ rfl HEq.rfl
      · exact h92 _ rfl HEq.rfl
      · exact h94 _ rfl HEq.rfl
      · exact h96 _ rfl HEq.rfl
      · exact h98 _ rfl HEq.rfl
      · exact h99 _ rfl HEq.rfl
      · exact h101 _ rfl HEq.rfl
      · exact h102 _ rfl HEq.rfl
      · exact h103 _ rfl HEq.rfl
      · exact h107 _ rfl HEq.rfl
      · exact h110 _ rfl HEq.rfl
    rw [hn]
theorem PDecOk (c : Nat) (a : A PU) (x : PU c) (h : PDec c a = some x) : PEnc c x = a := by
  unfold PDec at h
  split at h
  · obtain ⟨y1, e1, h1⟩ := Option.bind_eq_some_iff.1 h
    obtain rfl : a = .nilf := dNilf_ok e1
    cases h1; rfl
  · obtain ⟨y1, e1, h1⟩ := Option.bind_eq_some_iff.1 h
    obtain rfl : a = .int .i64 y1 := dInt_ok e1
    cases h1; rfl
  · obtain ⟨y1, e1, h1⟩ := Option.bind_eq_some_iff.1 h
    obtain rfl : a = .bool y1 := dBool_ok e1
    cases h1; rfl
  · obtain ⟨y1, e1, h1⟩ := Option.bind_eq_some_iff.1 h
    obtain rfl : a = .int .u8 y1 := dInt_ok e1
    cases h1; rfl
  · obtain ⟨y1, e1, h1⟩ := Option.bind_eq_some_iff.1 h
    obtain rfl : a = .int .i32 y1 := dInt_ok e1
    cases h1; rfl
  · obtain ⟨y1, e1, h1⟩ := Option.bind_eq_some_iff.1 h
    obtain rfl : a = .ro false 42 y1 := dRo_ok e1
    cases h1; rfl
  · obtain ⟨y1, e1, h1⟩ := Option.bind_eq_some_iff.1 h
    obtain rfl : a = .arr 5 32 y1 := dArr_ok e1
    cases h1; rfl
  · obtain ⟨l1, e1, h1⟩ := Option.bind_eq_some_iff.1 h
    obtain rfl : a = .agg l1 := dAgg_ok e1
    obtain ⟨⟨q2, r2⟩, e2, h2⟩ := Option.bind_eq_some_iff.1 h1
    obtain rfl : l1 = q2 :: r2 := dCons_ok e2
    obtain ⟨y3, e3, h3⟩ := Option.bind_eq_some_iff.1 h2
    obtain rfl : q2 = .bool y3 := dBool_ok e3
    obtain ⟨⟨q4, r4⟩, e4, h4⟩ := Option.bind_eq_some_iff.1 h3
    obtain rfl : r2 = q4 :: r4 := dCons_ok e4
    obtain ⟨y5, e5, h5⟩ := Option.bind_eq_some_iff.1 h4
    obtain rfl : q4 = .arr 5 32 y5 := dArr_ok e5
    obtain ⟨_, e6, h6⟩ := Option.bind_eq_some_iff.1 h5
    obtain rfl : r4 = [] := dEnd_ok e6
    cases h6; rfl
  · obtain ⟨y1, e1, h1⟩ := Option.bind_eq_some_iff.1 h
    obtain rfl : a = .ro false 24 y1 := dRo_ok e1
    cases h1; rfl
  · obtain ⟨l1, e1, h1⟩ := Option.bind_eq_some_iff.1 h
    obtain rfl : a = .agg l1 := dAgg_ok e1
    obtain ⟨⟨q2, r2⟩, e2, h2⟩ := Option.bind_eq_some_iff.1 h1
    obtain rfl : l1 = q2 :: r2 := dCons_ok e2
    obtain ⟨y3, e3, h3⟩ := Option.bind_eq_some_iff.1 h2
    obtain rfl : q2 = .ro false 24 y3 := dRo_ok e3
    obtain ⟨⟨q4, r4⟩, e4, h4⟩ := Option.bind_eq_some_iff.1 h3
    obtain rfl : r2 = q4 :: r4 := dCons_ok e4
    obtain ⟨y5, e5, h5⟩ := Option.bind_eq_some_iff.1 h4
    obtain rfl : q4 = .bool y5 := dBool_ok e5
    obtain ⟨⟨q6, r6⟩, e6, h6⟩ := Option.bind_eq_some_iff.1 h5
    obtain rfl : r4 = q6 :: r6 := dCons_ok e6
    obtain ⟨y7, e7, h7⟩ := Option.bind_eq_some_iff.1 h6
    obtain rfl : q6 = .arr 5 32 y7 := dArr_ok e7
    obtain ⟨⟨q8, r8⟩, e8, h8⟩ := Option.bind_eq_some_iff.1 h7
    obtain rfl : r6 = q8 :: r8 := dCons_ok e8
    obtain ⟨y9, e9, h9⟩ := Option.bind_eq_some_iff.1 h8
    obtain rfl : q8 = .arr 5 32 y9 := dArr_ok e9
    obtain ⟨_, e10, h10⟩ := Option.bind_eq_some_iff.1 h9
    obtain rfl : r8 = [] := dEnd_ok e10
    cases h10; rfl
  · obtain ⟨y1, e1, h1⟩ := Option.bind_eq_some_iff.1 h
    obtain rfl : a = .int .i64 y1 := dInt_ok e1
    cases h1; rfl
  · obtain ⟨l1, e1, h1⟩ := Option.bind_eq_some_iff.1 h
    obtain rfl : a = .agg l1 := dAgg_ok e1
    obtain ⟨⟨q2, r2⟩, e2, h2⟩ := Option.bind_eq_some_iff.1 h1
    obtain rfl : l1 = q2 :: r2 := dCons_ok e2
    obtain ⟨y3, e3, h3⟩ := Option.bind_eq_some_iff.1 h2
    obtain rfl : q2 = .arr 5 32 y3 := dArr_ok e3
    obtain ⟨⟨q4, r4⟩, e4, h4⟩ := Option.bind_eq_some_iff.1 h3
    obtain rfl : r2 = q4 :: r4 := dCons_ok e4
    obtain ⟨y5, e5, h5⟩ := Option.bind_eq_some_iff.1 h4
    obtain rfl : q4 = .arr 5 32 y5 := dArr_ok e5
    obtain ⟨_, e6, h6⟩ := Option.bind_eq_some_iff.1 h5
    obtain rfl : r4 = [] := dEnd_ok e6
    cases h6; rfl
  · obtain ⟨y1, e1, h1⟩ := Option.bind_eq_some_iff.1 h
    obtain rfl : a = .nilp := dNilp_ok e1
    cases h1; rfl
  · obtain ⟨y1, e1, h1⟩ := Option.bind_eq_some_iff.1 h
    obtain rfl : a = .nilf := dNilf_ok e1
    cases h1; rfl
  · obtain ⟨y1, e1, h1⟩ := Option.bind_eq_some_iff.1 h
    obtain rfl : a = .nilp := dNilp_ok e1
    cases h1; rfl
  · obtain ⟨l1, e1, h1⟩ := Option.bind_eq_some_iff.1 h
    obtain rfl : a = .agg l1 := dAgg_ok e1
    obtain ⟨⟨q2, r2⟩, e2, h2⟩ := Option.bind_eq_some_iff.1 h1
    obtain rfl : l1 = q2 :: r2 := dCons_ok e2
    obtain ⟨y3, e3, h3⟩ := Option.bind_eq_some_iff.1 h2
    obtain rfl : q2 = .int .i64 y3 := dInt_ok e3
    obtain ⟨⟨q4, r4⟩, e4, h4⟩ := Option.bind_eq_some_iff.1 h3
    obtain rfl : r2 = q4 :: r4 := dCons_ok e4
    obtain ⟨y5, e5, h5⟩ := Option.bind_eq_some_iff.1 h4
    obtain rfl : q4 = .int .i64 y5 := dInt_ok e5
    obtain ⟨⟨q6, r6⟩, e6, h6⟩ := Option.bind_eq_some_iff.1 h5
    obtain rfl : r4 = q6 :: r6 := dCons_ok e6
    obtain ⟨y7, e7, h7⟩ := Option.bind_eq_some_iff.1 h6
    obtain rfl : q6 = .nilp := dNilp_ok e7
    obtain ⟨_, e8, h8⟩ := Option.bind_eq_some_iff.1 h7
    obtain rfl : r6 = [] := dEnd_ok e8
    cases h8; rfl
  · obtain ⟨y1, e1, h1⟩ := Option.bind_eq_some_iff.1 h
    obtain rfl : a = .nilp := dNilp_ok e1
    cases h1; rfl
  · obtain ⟨y1, e1, h1⟩ := Option.bind_eq_some_iff.1 h
    obtain rfl : a = .ro false 5 y1 := dRo_ok e1
    cases h1; rfl
  · obtain ⟨y1, e1, h1⟩ := Option.bind_eq_some_iff.1 h
    obtain rfl : a = .nilf := dNilf_ok e1
    cases h1; rfl
  · obtain ⟨l1, e1, h1⟩ := Option.bind_eq_some_iff.1 h
    obtain rfl : a = .agg l1 := dAgg_ok e1
    obtain ⟨_, e2, h2⟩ := Option.bind_eq_some_iff.1 h1
    obtain rfl : l1 = [] := dEnd_ok e2
    cases h2; rfl
  · obtain ⟨l1, e1, h1⟩ := Option.bind_eq_some_iff.1 h
    obtain rfl : a = .agg l1 := dAgg_ok e1
    obtain ⟨_, e2, h2⟩ := Option.bind_eq_some_iff.1 h1
    obtain rfl : l1 = [] := dEnd_ok e2
    cases h2; rfl
  · obtain ⟨y1, e1, h1⟩ := Option.bind_eq_some_iff.1 h
    obtain rfl : a = .int .u32 y1 := dInt_ok e1
    cases h1; rfl
  · obtain ⟨l1, e1, h1⟩ := Option.bind_eq_some_iff.1 h
    obtain rfl : a = .agg l1 := dAgg_ok e1
    obtain ⟨⟨q2, r2⟩, e2, h2⟩ := Option.bind_eq_some_iff.1 h1
    obtain rfl : l1 = q2 :: r2 := dCons_ok e2
    obtain ⟨l3, e3, h3⟩ := Option.bind_eq_some_iff.1 h2
    obtain rfl : q2 = .agg l3 := dAgg_ok e3
    obtain ⟨_, e4, h4⟩ := Option.bind_eq_some_iff.1 h3
    obtain rfl : l3 = [] := dEnd_ok e4
    obtain ⟨⟨q4, r4⟩, e5, h5⟩ := Option.bind_eq_some_iff.1 h4
    obtain rfl : r2 = q4 :: r4 := dCons_ok e5
    obtain ⟨y5, e6, h6⟩ := Option.bind_eq_some_iff.1 h5
    obtain rfl : q4 = .int .u32 y5 := dInt_ok e6
    obtain ⟨_, e7, h7⟩ := Option.bind_eq_some_iff.1 h6
    obtain rfl : r4 = [] := dEnd_ok e7
    cases h7; rfl
  · obtain ⟨l1, e1, h1⟩ := Option.bind_eq_some_iff.1 h
    obtain rfl : a = .agg l1 := dAgg_ok e1
    obtain ⟨⟨q2, r2⟩, e2, h2⟩ := Option.bind_eq_some_iff.1 h1
    obtain rfl : l1 = q2 :: r2 := dCons_ok e2
    obtain ⟨y3, e3, h3⟩ := Option.bind_eq_some_iff.1 h2
    obtain rfl : q2 = .int .i32 y3 := dInt_ok e3
    obtain ⟨⟨q4, r4⟩, e4, h4⟩ := Option.bind_eq_some_iff.1 h3
    obtain rfl : r2 = q4 :: r4 := dCons_ok e4
    obtain ⟨y5, e5, h5⟩ := Option.bind_eq_some_iff.1 h4
    obtain rfl : q4 = .int .u32 y5 := dInt_ok e5
    obtain ⟨_, e6, h6⟩ := Option.bind_eq_some_iff.1 h5
    obtain rfl : r4 = [] := dEnd_ok e6
    cases h6; rfl
  · obtain ⟨l1, e1, h1⟩ := Option.bind_eq_some_iff.1 h
    obtain rfl : a = .agg l1 := dAgg_ok e1
    obtain ⟨⟨q2, r2⟩, e2, h2⟩ := Option.bind_eq_some_iff.1 h1
    obtain rfl : l1 = q2 :: r2 := dCons_ok e2
    obtain ⟨l3, e3, h3⟩ := Option.bind_eq_some_iff.1 h2
    obtain rfl : q2 = .agg l3 := dAgg_ok e3
    obtain ⟨_, e4, h4⟩ := Option.bind_eq_some_iff.1 h3
    obtain rfl : l3 = [] := dEnd_ok e4
    obtain ⟨⟨q4, r4⟩, e5, h5⟩ := Option.bind_eq_some_iff.1 h4
    obtain rfl : r2 = q4 :: r4 := dCons_ok e5
    obtain ⟨l5, e6, h6⟩ := Option.bind_eq_some_iff.1 h5
    obtain rfl : q4 = .agg l5 := dAgg_ok e6
    obtain ⟨⟨q6, r6⟩, e7, h7⟩ := Option.bind_eq_some_iff.1 h6
    obtain rfl : l5 = q6 :: r6 := dCons_ok e7
    obtain ⟨y7, e8, h8⟩ := Option.bind_eq_some_iff.1 h7
    obtain rfl : q6 = .int .i32 y7 := dInt_ok e8
    obtain ⟨⟨q8, r8⟩, e9, h9⟩ := Option.bind_eq_some_iff.1 h8
    obtain rfl : r6 = q8 :: r8 := dCons_ok e9
    obtain ⟨y9, e10, h10⟩ := Option.bind_eq_some_iff.1 h9
    obtain rfl : q8 = .int .u32 y9 := dInt_ok e10
    obtain ⟨_, e11, h11⟩ := Option.bind_eq_some_iff.1 h10
    obtain rfl : r8 = [] := dEnd_ok e11
    obtain ⟨_, e12, h12⟩ := Option.bind_eq_some_iff.1 h11
    obtain rfl : r4 = [] := dEnd_ok e12
    cases h12; rfl
  · obtain ⟨l1, e1, h1⟩ := Option.bind_eq_some_iff.1 h
    obtain rfl : a = .agg l1 := dAgg_ok e1
    obtain ⟨⟨q2, r2⟩, e2, h2⟩ := Option.bind_eq_some_iff.1 h1
    obtain rfl : l1 = q2 :: r2 := dCons_ok e2
    obtain ⟨l3, e3, h3⟩ := Option.bind_eq_some_iff.1 h2
    obtain rfl : q2 = .agg l3 := dAgg_ok e3
    obtain ⟨_, e4, h4⟩ := Option.bind_eq_some_iff.1 h3
    obtain rfl : l3 = [] := dEnd_ok e4
    obtain ⟨⟨q4, r4⟩, e5, h5⟩ := Option.bind_eq_some_iff.1 h4
    obtain rfl : r2 = q4 :: r4 := dCons_ok e5
    obtain ⟨l5, e6, h6⟩ := Option.bind_eq_some_iff.1 h5
    obtain rfl : q4 = .agg l5 := dAgg_ok e6
    obtain ⟨⟨q6, r6⟩, e7, h7⟩ := Option.bind_eq_some_iff.1 h6
    obtain rfl : l5 = q6 :: r6 := dCons_ok e7
    obtain ⟨l7, e8, h8⟩ := Option.bind_eq_some_iff.1 h7
    obtain rfl : q6 = .agg l7 := dAgg_ok e8
    obtain ⟨_, e9, h9⟩ := Option.bind_eq_some_iff.1 h8
    obtain rfl : l7 = [] := dEnd_ok e9
    obtain ⟨⟨q8, r8⟩, e10, h10⟩ := Option.bind_eq_some_iff.1 h9
    obtain rfl : r6 = q8 :: r8 := dCons_ok e10
    obtain ⟨y9, e11, h11⟩ := Option.bind_eq_some_iff.1 h10
    obtain rfl : q8 = .int .u32 y9 := dInt_ok e11
    obtain ⟨_, e12, h12⟩ := Option.bind_eq_some_iff.1 h11
    obtain rfl : r8 = [] := dEnd_ok e12
    obtain ⟨⟨q10, r10⟩, e13, h13⟩ := Option.bind_eq_some_iff.1 h12
    obtain rfl : r4 = q10 :: r10 := dCons_ok e13
    obtain ⟨l11, e14, h14⟩ := Option.bind_eq_some_iff.1 h13
    obtain rfl : q10 = .agg l11 := dAgg_ok e14
    obtain ⟨⟨q12, r12⟩, e15, h15⟩ := Option.bind_eq_some_iff.1 h14
    obtain rfl : l11 = q12 :: r12 := dCons_ok e15
    obtain ⟨l13, e16, h16⟩ := Option.bind_eq_some_iff.1 h15
    obtain rfl : q12 = .agg l13 := dAgg_ok e16
    obtain ⟨_, e17, h17⟩ := Option.bind_eq_some_iff.1 h16
    obtain rfl : l13 = [] := dEnd_ok e17
    obtain ⟨⟨q14, r14⟩, e18, h18⟩ := Option.bind_eq_some_iff.1 h17
    obtain rfl : r12 = q14 :: r14 := dCons_ok e18
    obtain ⟨l15, e19, h19⟩ := Option.bind_eq_some_iff.1 h18
    obtain rfl : q14 = .agg l15 := dAgg_ok e19
    obtain ⟨⟨q16, r16⟩, e20, h20⟩ := Option.bind_eq_some_iff.1 h19
    obtain rfl : l15 = q16 :: r16 := dCons_ok e20
    obtain ⟨y17, e21, h21⟩ := Option.bind_eq_some_iff.1 h20
    obtain rfl : q16 = .int .i32 y17 := dInt_ok e21
    obtain ⟨⟨q18, r18⟩, e22, h22⟩ := Option.bind_eq_some_iff.1 h21
    obtain rfl : r16 = q18 :: r18 := dCons_ok e22
    obtain ⟨y19, e23, h23⟩ := Option.bind_eq_some_iff.1 h22
    obtain rfl : q18 = .int .u32 y19 := dInt_ok e23
    obtain ⟨_, e24, h24⟩ := Option.bind_eq_some_iff.1 h23
    obtain rfl : r18 = [] := dEnd_ok e24
    obtain ⟨_, e25, h25⟩ := Option.bind_eq_some_iff.1 h24
    obtain rfl : r14 = [] := dEnd_ok e25
    obtain ⟨_, e26, h26⟩ := Option.bind_eq_some_iff.1 h25
    obtain rfl : r10 = [] := dEnd_ok e26
    cases h26; rfl
  · obtain ⟨l1, e1, h1⟩ := Option.bind_eq_some_iff.1 h
    obtain rfl : a = .agg l1 := dAgg_ok e1
    obtain ⟨⟨q2, r2⟩, e2, h2⟩ := Option.bind_eq_some_iff.1 h1
    obtain rfl : l1 = q2 :: r2 := dCons_ok e2
    obtain ⟨l3, e3, h3⟩ := Option.bind_eq_some_iff.1 h2
    obtain rfl : q2 = .agg l3 := dAgg_ok e3
    obtain ⟨⟨q4, r4⟩, e4, h4⟩ := Option.bind_eq_some_iff.1 h3
    obtain rfl : l3 = q4 :: r4 := dCons_ok e4
    obtain ⟨l5, e5, h5⟩ := Option.bind_eq_some_iff.1 h4
    obtain rfl : q4 = .agg l5 := dAgg_ok e5
    obtain ⟨_, e6, h6⟩ := Option.bind_eq_some_iff.1 h5
    obtain rfl : l5 = [] := dEnd_ok e6
    obtain ⟨⟨q6, r6⟩, e7, h7⟩ := Option.bind_eq_some_iff.1 h6
    obtain rfl : r4 = q6 :: r6 := dCons_ok e7
    obtain ⟨l7, e8, h8⟩ := Option.bind_eq_some_iff.1 h7
    obtain rfl : q6 = .agg l7 := dAgg_ok e8
    obtain ⟨⟨q8, r8⟩, e9, h9⟩ := Option.bind_eq_some_iff.1 h8
    obtain rfl : l7 = q8 :: r8 := dCons_ok e9
    obtain ⟨l9, e10, h10⟩ := Option.bind_eq_some_iff.1 h9
    obtain rfl : q8 = .agg l9 := dAgg_ok e10
    obtain ⟨_, e11, h11⟩ := Option.bind_eq_some_iff.1 h10
    obtain rfl : l9 = [] := dEnd_ok e11
    obtain ⟨⟨q10, r10⟩, e12, h12⟩ := Option.bind_eq_some_iff.1 h11
    obtain rfl : r8 = q10 :: r10 := dCons_ok e12
    obtain ⟨y11, e13, h13⟩ := Option.bind_eq_some_iff.1 h12
    obtain rfl : q10 = .int .u32 y11 := dInt_ok e13
    obtain ⟨_, e14, h14⟩ := Option.bind_eq_some_iff.1 h13
    obtain rfl : r10 = [] := dEnd_ok e14
    obtain ⟨⟨q12, r12⟩, e15, h15⟩ := Option.bind_eq_some_iff.1 h14
    obtain rfl : r6 = q12 :: r12 := dCons_ok e15
    obtain ⟨l13, e16, h16⟩ := Option.bind_eq_some_iff.1 h15
    obtain rfl : q12 = .agg l13 := dAgg_ok e16
    obtain ⟨⟨q14, r14⟩, e17, h17⟩ := Option.bind_eq_some_iff.1 h16
    obtain rfl : l13 = q14 :: r14 := dCons_ok e17
    obtain ⟨l15, e18, h18⟩ := Option.bind_eq_some_iff.1 h17
    obtain rfl : q14 = .agg l15 := dAgg_ok e18
    obtain ⟨_, e19, h19⟩ := Option.bind_eq_some_iff.1 h18
    obtain rfl : l15 = [] := dEnd_ok e19
    obtain ⟨⟨q16, r16⟩, e20, h20⟩ := Option.bind_eq_some_iff.1 h19
    obtain rfl : r14 = q16 :: r16 := dCons_ok e20
    obtain ⟨l17, e21, h21⟩ := Option.bind_eq_some_iff.1 h20
    obtain rfl : q16 = .agg l17 := dAgg_ok e21
    obtain ⟨⟨q18, r18⟩, e22, h22⟩ := Option.bind_eq_some_iff.1 h21
    obtain rfl : l17 = q18 :: r18 := dCons_ok e22
    obtain ⟨y19, e23, h23⟩ := Option.bind_eq_some_iff.1 h22
    obtain rfl : q18 = .int .i32 y19 := dInt_ok e23
    obtain ⟨⟨q20, r20⟩, e24, h24⟩ := Option.bind_eq_some_iff.1 h23
    obtain rfl : r18 = q20 :: r20 := dCons_ok e24
    obtain ⟨y21, e25, h25⟩ := Option.bind_eq_some_iff.1 h24
    obtain rfl : q20 = .int .u32 y21 := dInt_ok e25
    obtain ⟨_, e26, h26⟩ := Option.bind_eq_some_iff.1 h25
    obtain rfl : r20 = [] := dEnd_ok e26
    obtain ⟨_, e27, h27⟩ := Option.bind_eq_some_iff.1 h26
    obtain rfl : r16 = [] := dEnd_ok e27
    obtain ⟨_, e28, h28⟩ := Option.bind_eq_some_iff.1 h27
    obtain rfl : r12 = [] := dEnd_ok e28
    obtain ⟨⟨q22, r22⟩, e29, h29⟩ := Option.bind_eq_some_iff.1 h28
    obtain rfl : r2 = q22 :: r22 := dCons_ok e29
    obtain ⟨y23, e30, h30⟩ := Option.bind_eq_some_iff.1 h29
    obtain rfl : q22 = .arr 5 32 y23 := dArr_ok e30
    obtain ⟨_, e31, h31⟩ := Option.bind_eq_some_iff.1 h30
    obtain rfl : r22 = [] := dEnd_ok e31
    cases h31; rfl
  · obtain ⟨l1, e1, h1⟩ := Option.bind_eq_some_iff.1 h
    obtain rfl : a = .agg l1 := dAgg_ok e1
    obtain ⟨⟨q2, r2⟩, e2, h2⟩ := Option.bind_eq_some_iff.1 h1
    obtain rfl : l1 = q2 :: r2 := dCons_ok e2
    obtain ⟨l3, e3, h3⟩ := Option.bind_eq_some_iff.1 h2
    obtain rfl : q2 = .agg l3 := dAgg_ok e3
    obtain ⟨⟨q4, r4⟩, e4, h4⟩ := Option.bind_eq_some_iff.1 h3
    obtain rfl : l3 = q4 :: r4 := dCons_ok e4
    obtain ⟨l5, e5, h5⟩ := Option.bind_eq_some_iff.1 h4
    obtain rfl : q4 = .agg l5 := dAgg_ok e5
    obtain ⟨⟨q6, r6⟩, e6, h6⟩ := Option.bind_eq_some_iff.1 h5
    obtain rfl : l5 = q6 :: r6 := dCons_ok e6
    obtain ⟨l7, e7, h7⟩ := Option.bind_eq_some_iff.1 h6
    obtain rfl : q6 = .agg l7 := dAgg_ok e7
    obtain ⟨_, e8, h8⟩ := Option.bind_eq_some_iff.1 h7
    obtain rfl : l7 = [] := dEnd_ok e8
    obtain ⟨⟨q8, r8⟩, e9, h9⟩ := Option.bind_eq_some_iff.1 h8
    obtain rfl : r6 = q8 :: r8 := dCons_ok e9
    obtain ⟨l9, e10, h10⟩ := Option.bind_eq_some_iff.1 h9
    obtain rfl : q8 = .agg l9 := dAgg_ok e10
    obtain ⟨⟨q10, r10⟩, e11, h11⟩ := Option.bind_eq_some_iff.1 h10
    obtain rfl : l9 = q10 :: r10 := dCons_ok e11
    obtain ⟨l11, e12, h12⟩ := Option.bind_eq_some_iff.1 h11
    obtain rfl : q10 = .agg l11 := dAgg_ok e12
    obtain ⟨_, e13, h13⟩ := Option.bind_eq_some_iff.1 h12
    obtain rfl : l11 = [] := dEnd_ok e13
    obtain ⟨⟨q12, r12⟩, e14, h14⟩ := Option.bind_eq_some_iff.1 h13
    obtain rfl : r10 = q12 :: r12 := dCons_ok e14
    obtain ⟨y13, e15, h15⟩ := Option.bind_eq_some_iff.1 h14
    obtain rfl : q12 = .int .u32 y13 := dInt_ok e15
    obtain ⟨_, e16, h16⟩ := Option.bind_eq_some_iff.1 h15
    obtain rfl : r12 = [] := dEnd_ok e16
    obtain ⟨⟨q14, r14⟩, e17, h17⟩ := Option.bind_eq_some_iff.1 h16
    obtain rfl : r8 = q14 :: r14 := dCons_ok e17
    obtain ⟨l15, e18, h18⟩ := Option.bind_eq_some_iff.1 h17
    obtain rfl : q14 = .agg l15 := dAgg_ok e18
    obtain ⟨⟨q16, r16⟩, e19, h19⟩ := Option.bind_eq_some_iff.1 h18
    obtain rfl : l15 = q16 :: r16 := dCons_ok e19
    obtain ⟨l17, e20, h20⟩ := Option.bind_eq_some_iff.1 h19
    obtain rfl : q16 = .agg l17 := dAgg_ok e20
    obtain ⟨_, e21, h21⟩ := Option.bind_eq_some_iff.1 h20
    obtain rfl : l17 = [] := dEnd_ok e21
    obtain ⟨⟨q18, r18⟩, e22, h22⟩ := Option.bind_eq_some_iff.1 h21
    obtain rfl : r16 = q18 :: r18 := dCons_ok e22
    obtain ⟨l19, e23, h23⟩ := Option.bind_eq_some_iff.1 h22
    obtain rfl : q18 = .agg l19 := dAgg_ok e23
    obtain ⟨⟨q20, r20⟩, e24, h24⟩ := Option.bind_eq_some_iff.1 h23
    obtain rfl : l19 = q20 :: r20 := dCons_ok e24
    obtain ⟨y21, e25, h25⟩ := Option.bind_eq_some_iff.1 h24
    obtain rfl : q20 = .int .i32 y21 := dInt_ok e25
    obtain ⟨⟨q22, r22⟩, e26, h26⟩ := Option.bind_eq_some_iff.1 h25
    obtain rfl : r20 = q22 :: r22 := dCons_ok e26
    obtain ⟨y23, e27, h27⟩ := Option.bind_eq_some_iff.1 h26
    obtain rfl : q22 = .int .u32 y23 := dInt_ok e27
    obtain ⟨_, e28, h28⟩ := Option.bind_eq_some_iff.1 h27
    obtain rfl : r22 = [] := dEnd_ok e28
    obtain ⟨_, e29, h29⟩ := Option.bind_eq_some_iff.1 h28
    obtain rfl : r18 = [] := dEnd_ok e29
    obtain ⟨_, e30, h30⟩ := Option.bind_eq_some_iff.1 h29
    obtain rfl : r14 = [] := dEnd_ok e30
    obtain ⟨⟨q24, r24⟩, e31, h31⟩ := Option.bind_eq_some_iff.1 h30
    obtain rfl : r4 = q24 :: r24 := dCons_ok e31
    obtain ⟨y25, e32, h32⟩ := Option.bind_eq_some_iff.1 h31
    obtain rfl : q24 = .arr 5 32 y25 := dArr_ok e32
    obtain ⟨_, e33, h33⟩ := Option.bind_eq_some_iff.1 h32
    obtain rfl : r24 = [] := dEnd_ok e33
    obtain ⟨⟨q26, r26⟩, e34, h34⟩ := Option.bind_eq_some_iff.1 h33
    obtain rfl : r2 = q26 :: r26 := dCons_ok e34
    obtain ⟨l27, e35, h35⟩ := Option.bind_eq_some_iff.1 h34
    obtain rfl : q26 = .agg l27 := dAgg_ok e35
    obtain ⟨⟨q28, r28⟩, e36, h36⟩ := Option.bind_eq_some_iff.1 h35
    obtain rfl : l27 = q28 :: r28 := dCons_ok e36
    obtain ⟨y29, e37, h37⟩ := Option.bind_eq_some_iff.1 h36
    obtain rfl : q28 = .arr 5 32 y29 := dArr_ok e37
    obtain ⟨⟨q30, r30⟩, e38, h38⟩ := Option.bind_eq_some_iff.1 h37
    obtain rfl : r28 = q30 :: r30 := dCons_ok e38
    obtain ⟨y31, e39, h39⟩ := Option.bind_eq_some_iff.1 h38
    obtain rfl : q30 = .arr 5 32 y31 := dArr_ok e39
    obtain ⟨_, e40, h40⟩ := Option.bind_eq_some_iff.1 h39
    obtain rfl : r30 = [] := dEnd_ok e40
    obtain ⟨⟨q32, r32⟩, e41, h41⟩ := Option.bind_eq_some_iff.1 h40
    obtain rfl : r26 = q32 :: r32 := dCons_ok e41
    obtain ⟨y33, e42, h42⟩ := Option.bind_eq_some_iff.1 h41
    obtain rfl : q32 = .nilp := dNilp_ok e42
    obtain ⟨⟨q34, r34⟩, e43, h43⟩ := Option.bind_eq_some_iff.1 h42
    obtain rfl : r32 = q34 :: r34 := dCons_ok e43
    obtain ⟨y35, e44, h44⟩ := Option.bind_eq_some_iff.1 h43
    obtain rfl : q34 = .nilp := dNilp_ok e44
    obtain ⟨_, e45, h45⟩ := Option.bind_eq_some_iff.1 h44
    obtain rfl : r34 = [] := dEnd_ok e45
    cases h45; rfl
  · obtain ⟨y1, e1, h1⟩ := Option.bind_eq_some_iff.1 h
    obtain rfl : a = .arr 84 8 y1 := dArr_ok e1
    cases h1; rfl
  · obtain ⟨y1, e1, h1⟩ := Option.bind_eq_some_iff.1 h
    obtain rfl : a = .arr 5 64 y1 := dArr_ok e1
    cases h1; rfl
  · obtain ⟨l1, e1, h1⟩ := Option.bind_eq_some_iff.1 h
    obtain rfl : a = .agg l1 := dAgg_ok e1
    obtain ⟨⟨q2, r2⟩, e2, h2⟩ := Option.bind_eq_some_iff.1 h1
    obtain rfl : l1 = q2 :: r2 := dCons_ok e2
    obtain ⟨y3, e3, h3⟩ := Option.bind_eq_some_iff.1 h2
    obtain rfl : q2 = .arr 84 8 y3 := dArr_ok e3
    obtain ⟨⟨q4, r4⟩, e4, h4⟩ := Option.bind_eq_some_iff.1 h3
    obtain rfl : r2 = q4 :: r4 := dCons_ok e4
    obtain ⟨y5, e5, h5⟩ := Option.bind_eq_some_iff.1 h4
    obtain rfl : q4 = .arr 5 64 y5 := dArr_ok e5
    obtain ⟨⟨q6, r6⟩, e6, h6⟩ := Option.bind_eq_some_iff.1 h5
    obtain rfl : r4 = q6 :: r6 := dCons_ok e6
    obtain ⟨y7, e7, h7⟩ := Option.bind_eq_some_iff.1 h6
    obtain rfl : q6 = .int .i64 y7 := dInt_ok e7
    obtain ⟨_, e8, h8⟩ := Option.bind_eq_some_iff.1 h7
    obtain rfl : r6 = [] := dEnd_ok e8
    cases h8; rfl
  · obtain ⟨y1, e1, h1⟩ := Option.bind_eq_some_iff.1 h
    obtain rfl : a = .arr 5 72 y1 := dArr_ok e1
    cases h1; rfl
  · obtain ⟨y1, e1, h1⟩ := Option.bind_eq_some_iff.1 h
    obtain rfl : a = .int .u64 y1 := dInt_ok e1
    cases h1; rfl
  · obtain ⟨y1, e1, h1⟩ := Option.bind_eq_some_iff.1 h
    obtain rfl : a = .int .u64 y1 := dInt_ok e1
    cases h1; rfl
  · obtain ⟨y1, e1, h1⟩ := Option.bind_eq_some_iff.1 h
    obtain rfl : a = .arr 84 64 y1 := dArr_ok e1
    cases h1; rfl
  · cases h
theorem PPlain : ∀ r ∈ PE.tys, plainTy r.ty = true → PlainOk PE r.t :=
  List.forall_mem_cons.2 ⟨(fun h => nomatch h),
  List.forall_mem_cons.2 ⟨(fun _ => ⟨fun l m => eqLI_iff l m, fun x y => ⟨decI x y, rfl, decI_iff x y⟩⟩),
  List.forall_mem_cons.2 ⟨(fun _ => ⟨fun l m => eqLB_iff l m, fun x y => ⟨decB x y, rfl, decB_iff x y⟩⟩),
  List.forall_mem_cons.2 ⟨(fun _ => ⟨fun l m => eqLI_iff l m, fun x y => ⟨decI x y, rfl, decI_iff x y⟩⟩),
  List.forall_mem_cons.2 ⟨(fun _ => ⟨fun l m => eqLI_iff l m, fun x y => ⟨decI x y, rfl, decI_iff x y⟩⟩),
  List.forall_mem_cons.2 ⟨(fun h => nomatch h),
  List.forall_mem_cons.2 ⟨(fun h => nomatch h),
  List.forall_mem_cons.2 ⟨(fun h => nomatch h),
  List.forall_mem_cons.2 ⟨(fun h => nomatch h),
  List.forall_mem_cons.2 ⟨(fun h => nomatch h),
  List.forall_mem_cons.2 ⟨(fun _ => ⟨fun l m => eqLI_iff l m, fun x y => ⟨decI x y, rfl, decI_iff x y⟩⟩),
  List.forall_mem_cons.2 ⟨(fun h => nomatch h),
  List.forall_mem_cons.2 ⟨(fun h => nomatch h),
  List.forall_mem_cons.2 ⟨(fun h => nomatch h),
  List.forall_mem_cons.2 ⟨(fun h => nomatch h),
  List.forall_mem_cons.2 ⟨(fun h => nomatch h),
  List.forall_mem_cons.2 ⟨(fun h => nomatch h),
  List.forall_mem_cons.2 ⟨(fun h => nomatch h),
  List.forall_mem_cons.2 ⟨(fun h => nomatch h),
  List.forall_mem_cons.2 ⟨(fun h => nomatch h),
  List.forall_mem_cons.2 ⟨(fun h => nomatch h),
  List.forall_mem_cons.2 ⟨(fun _ => ⟨fun l m => eqLI_iff l m, fun x y => ⟨decI x y, rfl, decI_iff x y⟩⟩),
  List.forall_mem_cons.2 ⟨(fun h => nomatch h),
  List.forall_mem_cons.2 ⟨(fun h => nomatch h),
  List.forall_mem_cons.2 ⟨(fun h => nomatch h),
  List.forall_mem_cons.2 ⟨(fun h => nomatch h),
  List.forall_mem_cons.2 ⟨(fun h => nomatch h),
  List.forall_mem_cons.2 ⟨(fun h => nomatch h),
  List.forall_mem_cons.2 ⟨(fun h => nomatch h),
  List.forall_mem_cons.2 ⟨(fun h => nomatch h),
  List.forall_mem_cons.2 ⟨(fun h => nomatch h),
  List.forall_mem_cons.2 ⟨(fun h => nomatch h),
  List.forall_mem_cons.2 ⟨(fun _ => ⟨fun l m => eqLI_iff l m, fun x y => ⟨decI x y, rfl, decI_iff x y⟩⟩),
  List.forall_mem_cons.2 ⟨(fun _ => ⟨fun l m => eqLI_iff l m, fun x y => ⟨decI x y, rfl, decI_iff x y⟩⟩),
  List.forall_mem_cons.2 ⟨(fun h => nomatch h),
  (fun _ h => nomatch h)⟩⟩⟩⟩⟩⟩⟩⟩⟩⟩⟩⟩⟩⟩⟩⟩⟩⟩⟩⟩⟩⟩⟩⟩⟩⟩⟩⟩⟩⟩⟩⟩⟩⟩⟩
theorem PToBOk (c : Nat) (l : List (PU c)) (t : ByteArray) (h : PToB c l = some t) : PE.ty c = .int .u8 ∧ ∃ ns : List Int, l.map (PE.enc c) = ns.map (.int .u8) ∧ t = bytesOf ns := by
  unfold PToB at h
  split at h
  · rename_i x; cases h; exact ⟨rfl, x, List.map_congr_left fun _ _ => rfl, rfl⟩
  · cases h
theorem POfBOk (c : Nat) (t : ByteArray) (l : List (PU c)) (h : POfB c t = some l) : PE.ty c = .int .u8 ∧ l.map (PE.enc c) = (bytesTo t).map (.int .u8) := by
  unfold POfB at h
  split at h
  · cases h; exact ⟨rfl, List.map_congr_left fun _ _ => rfl⟩
  · cases h
theorem PGlobOk (g : Nat) : loan (PGlob g) = false ∧ noTupG (PGlob g) = true := by
  unfold PGlob
  split <;> exact ⟨rfl, rfl⟩
theorem PEok : EnvOk2 PE := envOk_of PE ⟨fun c x => (PEncOk c x).1, fun c x => (PEncOk c x).2, PDecOk, fun _ _ => rfl⟩ (by kernel_rfl) (by kernel_rfl) ⟨PGlobOk, eqA_of PPlain, by kernel_rfl, PToBOk, POfBOk⟩
end Go.V
