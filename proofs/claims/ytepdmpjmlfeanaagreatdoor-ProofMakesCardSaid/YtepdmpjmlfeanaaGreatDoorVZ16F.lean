import Derived.Test.YtepdmpjmlfeanaaGreatDoorVJ11
import Derived.Test.YtepdmpjmlfeanaaGreatDoorVJ10
set_option linter.unusedVariables false
namespace Go.V
open Go
structure S_api_Leaf where
  f0 : (List Int)
  f1 : (List Int)
structure S_api_Claim where
  f0 : Bool
  f1 : (List Int)
structure S_api_Proof where
  f0 : (List (List Int))
  f1 : Bool
  f2 : (List Int)
  f3 : (List Int)
structure S_smt_Tree where
  f0 : Int
  f1 : Int
  f2 : Unit
structure S_sync_noCopy where
structure S_sync_atomic_Bool where
  f0 : S_sync_noCopy
  f1 : Int
structure S_internal_sync_Mutex where
  f0 : Int
  f1 : Int
structure S_sync_Mutex where
  f0 : S_sync_noCopy
  f1 : S_internal_sync_Mutex
structure S_sync_Once where
  f0 : S_sync_noCopy
  f1 : S_sync_atomic_Bool
  f2 : S_sync_Mutex
structure S_smt_made where
  f0 : S_sync_Once
  f1 : (List Int)
structure S_smt_knot where
  f0 : S_smt_made
  f1 : S_api_Leaf
  f2 : Unit
  f3 : Unit
structure S_sha_Hash where
  f0 : (List Int)
  f1 : (List Int)
  f2 : Int
def cmpL : List Int → List Int → Int
  | [], [] => 0
  | [], _ :: _ => -1
  | _ :: _, [] => 1
  | x :: a, y :: b => if x < y then -1 else if y < x then 1 else cmpL a b
/-- leaves by rising paths -/
def SortedL (l : List S_api_Leaf) : Prop := l.Pairwise fun a b => ¬ cmpL b.f0 a.f0 < 0
/-- a tree's digest at a width -/
def digT (w : Int) : KT S_api_Leaf → List Int
  | .nil => shortL w.toNat [2]
  | .node _ v l r => bif l.isNil && r.isNil then shortL w.toNat (0 :: (v.f0 ++ v.f1)) else shortL w.toNat (1 :: (digT w l ++ digT w r))
/-- all knots are of this width, and all leaves are of digests -/
def allG (w : Int) : KT S_api_Leaf → Prop
  | .nil => True
  | .node g v l r => g = w ∧ ((Dig v.f0 ∧ Dig v.f1) ∧ (allG w l ∧ allG w r))
def htT : KT S_api_Leaf → Nat
  | .nil => 0
  | .node _ _ l r => 1 + max (htT l) (htT r)
def digBound (x : KT S_api_Leaf) : Nat := 7000 + 10 * htT x

def G_sha_keys : (List Int) := [1116352408, 1899447441, 3049323471, 3921009573, 961987163, 1508970993, 2453635748, 2870763221, 3624381080, 310598401, 607225278, 1426881987, 1925078388, 2162078206, 2614888103, 3248222580, 3835390401, 4022224774, 264347078, 604807628, 770255983, 1249150122, 1555081692, 1996064986, 2554220882, 2821834349, 2952996808, 3210313671, 3336571891, 3584528711, 113926993, 338241895, 666307205, 773529912, 1294757372, 1396182291, 1695183700, 1986661051, 2177026350, 2456956037, 2730485921, 2820302411, 3259730800, 3345764771, 3516065817, 3600352804, 4094571909, 275423344, 430227734, 506948616, 659060556, 883997877, 958139571, 1322822218, 1537002063, 1747873779, 1955562222, 2024104815, 2227730452, 2361852424, 2428436474, 2756734187, 3204031479, 3329325298]
def G_r02_key : (List Int) := [1116352408, 1899447441, 3049323471, 3921009573, 961987163, 1508970993, 2453635748, 2870763221, 3624381080, 310598401, 607225278, 1426881987, 1925078388, 2162078206, 2614888103, 3248222580, 3835390401, 4022224774, 264347078, 604807628, 770255983, 1249150122, 1555081692, 1996064986, 2554220882, 2821834349, 2952996808, 3210313671, 3336571891, 3584528711, 113926993, 338241895, 666307205, 773529912, 1294757372, 1396182291, 1695183700, 1986661051, 2177026350, 2456956037, 2730485921, 2820302411, 3259730800, 3345764771, 3516065817, 3600352804, 4094571909, 275423344, 430227734, 506948616, 659060556, 883997877, 958139571, 1322822218, 1537002063, 1747873779, 1955562222, 2024104815, 2227730452, 2361852424, 2428436474, 2756734187, 3204031479, 3329325298]
def F_smt_width (k : Nat) (r1 : Int) (K0 : Bool → Prop) : Prop := match k with
  | 0 => False
  | k + 1 => (cond (decide ((0 : Int) ≤ r1)) (K0 (decide (r1 ≤ (32 : Int)))) (K0 false))
def F_smt_New (k : Nat) (r1 : Int) (K0 : Int → Prop) (K1 : Int → Int → Int → (KT S_api_Leaf) → Prop) : Prop := match k with
  | 0 => False
  | k + 1 => (Hold (F_smt_width k r1 (fun r2 => (cond (!r2) (K0 (1 : Int)) (K1 (0 : Int) r1 (0 : Int) (KT.nil : KT S_api_Leaf))))))
def F_smt_Tree_Set (k : Nat) (r1 : (List S_api_Leaf)) (K0 : Int → Prop) : Prop := match k with
  | 0 => False
  | k + 1 => K0 (3 : Int)
def F_smt_Tree_Root (k : Nat)  (K0 : (List Int) → Prop) : Prop := match k with
  | 0 => False
  | k + 1 => K0 [(0 : Int), (0 : Int), (0 : Int), (0 : Int), (0 : Int), (0 : Int), (0 : Int), (0 : Int), (0 : Int), (0 : Int), (0 : Int), (0 : Int), (0 : Int), (0 : Int), (0 : Int), (0 : Int), (0 : Int), (0 : Int), (0 : Int), (0 : Int), (0 : Int), (0 : Int), (0 : Int), (0 : Int), (0 : Int), (0 : Int), (0 : Int), (0 : Int), (0 : Int), (0 : Int), (0 : Int), (0 : Int)]
def F_slices_Clone_api_Leaf_api_Leaf (k : Nat) (r1 : (List S_api_Leaf)) (K0 : (List S_api_Leaf) → Prop) : Prop := match k with
  | 0 => False
  | k + 1 => (∀ r2 : Bool, (r2 = true → r1 = ([] : List S_api_Leaf)) → (cond r2 (K0 []) ((room (List.length ([] : List S_api_Leaf) + List.length r1) 64) ∧ K0 (([] : List S_api_Leaf) ++ r1))))
def F_cmp_isNaN_byte (k : Nat) (r1 : Int) (K0 : Bool → Prop) : Prop := match k with
  | 0 => False
  | k + 1 => K0 (!decide (r1 = r1))
def F_cmp_Compare_byte (k : Nat) (r1 : Int) (r2 : Int) (K0 : Int → Prop) : Prop := match k with
  | 0 => False
  | k + 1 => (Hold (F_cmp_isNaN_byte k r1 (fun r3 => (Hold (F_cmp_isNaN_byte k r2 (fun r4 => (cond r3 ((cond r4 (K0 (0 : Int)) (K0 (-1 : Int)))) ((cond r4 (K0 (1 : Int)) ((cond (decide (r1 < r2)) (K0 (-1 : Int)) ((cond (decide (r2 < r1)) (K0 (1 : Int)) (K0 (0 : Int)))))))))))))))
def C_slices_Compare_byte_byte_2 : Nat → (List Int) → (List Int) → (List Int) → Int → Int → (Int → Prop) → Prop
  | 0, _, _, _, _, _, _ => False
  | k + 1, r3, r4, r5, r6, r7, K0 => (cond (decide (r7 < r6)) ((0 ≤ r7 ∧ r7 < ((List.length r5 : Nat) : Int)) ∧ (cond (decide (((List.length r4 : Nat) : Int) ≤ r7)) (K0 (1 : Int)) ((0 ≤ r7 ∧ r7 < ((List.length r4 : Nat) : Int)) ∧ (Hold (F_cmp_Compare_byte k (List.getD r5 (Int.toNat r7) (0 : Int)) (List.getD r4 (Int.toNat r7) (0 : Int)) (fun r8 => (cond (!decide (r8 = (0 : Int))) (K0 r8) ((Hold (C_slices_Compare_byte_byte_2 k r3 r4 r5 r6 (IntKind.i64.wrap (r7 + (1 : Int))) K0)))))))))) ((cond (decide (((List.length r3 : Nat) : Int) < ((List.length r4 : Nat) : Int))) (K0 (-1 : Int)) (K0 (0 : Int)))))
def F_slices_Compare_byte_byte (k : Nat) (r1 : (List Int)) (r2 : (List Int)) (K0 : Int → Prop) : Prop := match k with
  | 0 => False
  | k + 1 => (Hold (C_slices_Compare_byte_byte_2 k r1 r2 r1 ((List.length r1 : Nat) : Int) (0 : Int) K0))
def F_smt_twice_1 (k : Nat) (r1 : (List Int)) (r2 : (List Int)) (r3 : (List Int)) (r4 : (List Int)) (K0 : Int → Prop) : Prop := match k with
  | 0 => False
  | k + 1 => (0 ≤ (0 : Int) ∧ (0 : Int) ≤ (32 : Int) ∧ (32 : Int) ≤ (32 : Int)) ∧ (0 ≤ (0 : Int) ∧ (0 : Int) ≤ (32 : Int) ∧ (32 : Int) ≤ (32 : Int)) ∧ (Hold (F_slices_Compare_byte_byte k (cut r1 (Int.toNat (0 : Int)) (Int.toNat ((32 : Int) - (0 : Int)))) (cut r3 (Int.toNat (0 : Int)) (Int.toNat ((32 : Int) - (0 : Int)))) (fun r5 => K0 r5)))
def F_slices_SortFunc_api_Leaf_api_Leaf (k : Nat) (r1 : (List S_api_Leaf)) (K0 : (List S_api_Leaf) → Prop) : Prop := match k with
  | 0 => False
  | k + 1 => (100 ≤ k ∧ List.length r1 < 4611686018427387904) ∧ ∀ l9 : (List S_api_Leaf), List.Perm l9 r1 ∧ SortedL l9 → K0 l9
def C_smt_twice_4 : Nat → Int → Int → (List S_api_Leaf) → (Bool → Prop) → Prop
  | 0, _, _, _, _ => False
  | k + 1, r4, r5, r6, K0 => (cond (decide (r5 < r4)) ((cond (decide ((0 : Int) < r5)) ((0 ≤ r5 ∧ r5 < ((List.length r6 : Nat) : Int)) ∧ (0 ≤ (IntKind.i64.wrap (r5 - (1 : Int))) ∧ (IntKind.i64.wrap (r5 - (1 : Int))) < ((List.length r6 : Nat) : Int)) ∧ (cond (decide ((List.getD r6 (Int.toNat r5) (S_api_Leaf.mk (List.replicate 32 (0 : Int)) (List.replicate 32 (0 : Int)))).f0 = (List.getD r6 (Int.toNat (IntKind.i64.wrap (r5 - (1 : Int)))) (S_api_Leaf.mk (List.replicate 32 (0 : Int)) (List.replicate 32 (0 : Int)))).f0)) (K0 true) ((Hold (C_smt_twice_4 k r4 (IntKind.i64.wrap (r5 + (1 : Int))) r6 K0))))) ((Hold (C_smt_twice_4 k r4 (IntKind.i64.wrap (r5 + (1 : Int))) r6 K0))))) (K0 false))
def F_smt_twice (k : Nat) (r1 : (List S_api_Leaf)) (K0 : Bool → Prop) : Prop := match k with
  | 0 => False
  | k + 1 => (Hold (F_slices_Clone_api_Leaf_api_Leaf k r1 (fun r2 => (Hold (F_slices_SortFunc_api_Leaf_api_Leaf k r2 (fun r3 => (Hold (C_smt_twice_4 k ((List.length r3 : Nat) : Int) (0 : Int) r3 K0))))))))
def F_smt_knot_inner (k : Nat) (r1 : (KT S_api_Leaf)) (K0 : Bool → Prop) : Prop := match k with
  | 0 => False
  | k + 1 => (cond (!(KT.isNil r1)) ((KT.isNil r1 = false) ∧ (KT.isNil r1 = false) ∧ (cond (!(KT.isNil (KT.lt r1))) (K0 true) ((KT.isNil r1 = false) ∧ (KT.isNil r1 = false) ∧ K0 (!(KT.isNil (KT.rt r1)))))) (K0 false))
def F_path_mask (k : Nat) (r1 : Int) (K0 : Int → Prop) : Prop := match k with
  | 0 => False
  | k + 1 => ((8 : Int) ≠ 0) ∧ (0 ≤ (IntKind.i64.wrap ((7 : Int) - (Int.tmod r1 (8 : Int))))) ∧ K0 (ishl .u8 (1 : Int) (IntKind.i64.wrap ((7 : Int) - (Int.tmod r1 (8 : Int)))))
def F_path_Bit (k : Nat) (r1 : (List Int)) (r2 : Int) (K0 : Int → Int → Prop) : Prop := match k with
  | 0 => False
  | k + 1 => (cond (decide (r2 < (0 : Int))) (K0 (0 : Int) (20 : Int)) ((cond (decide ((256 : Int) ≤ r2)) (K0 (0 : Int) (20 : Int)) (((8 : Int) ≠ 0) ∧ (0 ≤ (IntKind.i64.wrap (Int.tdiv r2 (8 : Int))) ∧ (IntKind.i64.wrap (Int.tdiv r2 (8 : Int))) < (32 : Int)) ∧ (Hold (F_path_mask k r2 (fun r3 => (cond (!decide ((iand .u8 (List.getD r1 (Int.toNat (IntKind.i64.wrap (Int.tdiv r2 (8 : Int)))) (0 : Int)) r3) = (0 : Int))) (K0 (1 : Int) (0 : Int)) (K0 (0 : Int) (0 : Int))))))))))
def F_smt_right (k : Nat) (r1 : (List Int)) (r2 : Int) (K0 : Bool → Prop) : Prop := match k with
  | 0 => False
  | k + 1 => (Hold (F_path_Bit k r1 r2 (fun r3 r4 => K0 (decide (r3 = (1 : Int))))))
def C_smt_Tree_Get_11 : Nat → Int → Int → (KT S_api_Leaf) → (List Int) → ((List Int) → Bool → Int → Int → (KT S_api_Leaf) → Prop) → Prop
  | 0, _, _, _, _, _ => False
  | k + 1, r14, r15, r16, r17, K0 => K0 [(0 : Int), (0 : Int), (0 : Int), (0 : Int), (0 : Int), (0 : Int), (0 : Int), (0 : Int), (0 : Int), (0 : Int), (0 : Int), (0 : Int), (0 : Int), (0 : Int), (0 : Int), (0 : Int), (0 : Int), (0 : Int), (0 : Int), (0 : Int), (0 : Int), (0 : Int), (0 : Int), (0 : Int), (0 : Int), (0 : Int), (0 : Int), (0 : Int), (0 : Int), (0 : Int), (0 : Int), (0 : Int)] false r14 r15 r16
def C_smt_Tree_Get_5 : Nat → (KT S_api_Leaf) → Int → Int → Int → (KT S_api_Leaf) → (List Int) → (List Int) → ((List Int) → Bool → Int → Int → (KT S_api_Leaf) → Prop) → Prop
  | 0, _, _, _, _, _, _, _, _ => False
  | k + 1, r5, r6, r7, r8, r9, r10, r11, K0 => (Hold (F_smt_knot_inner k r5 (fun r12 => (cond r12 ((Hold (F_smt_right k r10 r6 (fun r13 => (cond r13 ((KT.isNil r5 = false) ∧ (KT.isNil r5 = false) ∧ (Hold (C_smt_Tree_Get_5 k (KT.rt r5) (IntKind.i64.wrap (r6 + (1 : Int))) r7 r8 r9 r10 r11 K0))) ((KT.isNil r5 = false) ∧ (KT.isNil r5 = false) ∧ (Hold (C_smt_Tree_Get_5 k (KT.lt r5) (IntKind.i64.wrap (r6 + (1 : Int))) r7 r8 r9 r10 r11 K0)))))))) ((cond (KT.isNil r5) ((Hold (C_smt_Tree_Get_11 k r7 r8 r9 r11 K0))) ((KT.isNil r5 = false) ∧ (KT.isNil r5 = false) ∧ (KT.isNil r5 = false) ∧ (cond (!(decide ((KT.lf (S_api_Leaf.mk (List.replicate 32 (0 : Int)) (List.replicate 32 (0 : Int))) r5).f0 = r10))) ((Hold (C_smt_Tree_Get_11 k r7 r8 r9 r11 K0))) ((KT.isNil r5 = false) ∧ (KT.isNil r5 = false) ∧ (KT.isNil r5 = false) ∧ K0 (KT.lf (S_api_Leaf.mk (List.replicate 32 (0 : Int)) (List.replicate 32 (0 : Int))) r5).f1 true r7 r8 r9)))))))))
def F_smt_Tree_Get (k : Nat) (r1 : (List Int)) (r2 : Int) (r3 : Int) (r4 : (KT S_api_Leaf)) (K0 : (List Int) → Bool → Int → Int → (KT S_api_Leaf) → Prop) : Prop := match k with
  | 0 => False
  | k + 1 => (Hold (C_smt_Tree_Get_5 k r4 (0 : Int) r2 r3 r4 r1 (List.replicate 32 (0 : Int)) K0))
mutual
def C_smt_knot_with_8_1 : Nat → (KT S_api_Leaf) → Int → (List Int) → (List Int) → ((KT S_api_Leaf) → Prop) → Prop
  | 0, _, _, _, _, _ => False
  | k + 1, r38, r39, r40, r41, K0 => (KT.isNil r38 = false) ∧ (KT.isNil r38 = false) ∧ (KT.isNil r38 = false) ∧ (KT.isNil r38 = false) ∧ (∃ r42 : Int, (Hold (C_smt_knot_with_9 k r39 r40 r41 r42 (List.replicate 32 (0 : Int)) (List.replicate 32 (0 : Int)) (List.replicate 32 (0 : Int)) (KT.lt r38) (KT.rt r38) K0)))
def F_smt_knot_with : Nat → (KT S_api_Leaf) → (List Int) → (List Int) → Int → ((KT S_api_Leaf) → Prop) → Prop
  | 0, _, _, _, _, _ => False
  | k + 1, r1, r2, r3, r4, K0 => (cond (KT.isNil r1) ((∃ r5 : Int, K0 (KT.node r5 (S_api_Leaf.mk r2 r3) (KT.nil : KT S_api_Leaf) (KT.nil : KT S_api_Leaf)))) ((Hold (F_smt_knot_inner k r1 (fun r6 => (cond (!r6) ((KT.isNil r1 = false) ∧ (KT.isNil r1 = false) ∧ (KT.isNil r1 = false) ∧ (cond (decide ((KT.lf (S_api_Leaf.mk (List.replicate 32 (0 : Int)) (List.replicate 32 (0 : Int))) r1).f0 = r2)) ((∃ r7 : Int, K0 (KT.node r7 (S_api_Leaf.mk r2 r3) (KT.nil : KT S_api_Leaf) (KT.nil : KT S_api_Leaf)))) ((Hold (C_smt_knot_with_3 k r1 r4 r2 r3 K0))))) ((Hold (C_smt_knot_with_3 k r1 r4 r2 r3 K0)))))))))
def C_smt_knot_with_9 : Nat → Int → (List Int) → (List Int) → Int → (List Int) → (List Int) → (List Int) → (KT S_api_Leaf) → (KT S_api_Leaf) → ((KT S_api_Leaf) → Prop) → Prop
  | 0, _, _, _, _, _, _, _, _, _, _ => False
  | k + 1, r26, r27, r28, r29, r30, r31, r32, r33, r34, K0 => (Hold (F_smt_right k r27 r26 (fun r35 => (cond r35 ((Hold (F_smt_knot_with k r34 r27 r28 (IntKind.i64.wrap (r26 + (1 : Int))) (fun r36 => K0 (KT.node r29 (S_api_Leaf.mk r31 r32) r33 r36))))) ((Hold (F_smt_knot_with k r33 r27 r28 (IntKind.i64.wrap (r26 + (1 : Int))) (fun r37 => K0 (KT.node r29 (S_api_Leaf.mk r31 r32) r37 r34)))))))))
def C_smt_knot_with_8 : Nat → Int → Int → (List Int) → (List Int) → (List Int) → (KT S_api_Leaf) → (KT S_api_Leaf) → (List Int) → (List Int) → ((KT S_api_Leaf) → Prop) → Prop
  | 0, _, _, _, _, _, _, _, _, _, _ => False
  | k + 1, r16, r17, r18, r19, r20, r21, r22, r23, r24, K0 => (∃ r25 : Int, (Hold (C_smt_knot_with_9 k r16 r23 r24 r25 (List.replicate 32 (0 : Int)) (List.replicate 32 (0 : Int)) (List.replicate 32 (0 : Int)) r21 r22 K0)))
def C_smt_knot_with_3 : Nat → (KT S_api_Leaf) → Int → (List Int) → (List Int) → ((KT S_api_Leaf) → Prop) → Prop
  | 0, _, _, _, _, _ => False
  | k + 1, r8, r9, r10, r11, K0 => (Hold (F_smt_knot_inner k r8 (fun r12 => (cond (!r12) ((KT.isNil r8 = false) ∧ (KT.isNil r8 = false) ∧ (∃ r13 : Int, (∃ r14 : Int, (Hold (F_smt_right k (KT.lf (S_api_Leaf.mk (List.replicate 32 (0 : Int)) (List.replicate 32 (0 : Int))) r8).f0 r9 (fun r15 => (cond r15 ((Hold (C_smt_knot_with_8 k r9 r14 (List.replicate 32 (0 : Int)) (List.replicate 32 (0 : Int)) (List.replicate 32 (0 : Int)) (KT.nil : KT S_api_Leaf) (KT.node r13 (S_api_Leaf.mk (KT.lf (S_api_Leaf.mk (List.replicate 32 (0 : Int)) (List.replicate 32 (0 : Int))) r8).f0 (KT.lf (S_api_Leaf.mk (List.replicate 32 (0 : Int)) (List.replicate 32 (0 : Int))) r8).f1) (KT.nil : KT S_api_Leaf) (KT.nil : KT S_api_Leaf)) r10 r11 K0))) ((Hold (C_smt_knot_with_8 k r9 r14 (List.replicate 32 (0 : Int)) (List.replicate 32 (0 : Int)) (List.replicate 32 (0 : Int)) (KT.node r13 (S_api_Leaf.mk (KT.lf (S_api_Leaf.mk (List.replicate 32 (0 : Int)) (List.replicate 32 (0 : Int))) r8).f0 (KT.lf (S_api_Leaf.mk (List.replicate 32 (0 : Int)) (List.replicate 32 (0 : Int))) r8).f1) (KT.nil : KT S_api_Leaf) (KT.nil : KT S_api_Leaf)) (KT.nil : KT S_api_Leaf) r10 r11 K0)))))))))) ((Hold (C_smt_knot_with_8_1 k r8 r9 r10 r11 K0)))))))
end
def C_smt_Tree_Set_9 : Nat → (KT S_api_Leaf) → Int → (List S_api_Leaf) → Int → Int → Int → Int → (KT S_api_Leaf) → (Int → Int → Int → (KT S_api_Leaf) → Prop) → Prop
  | 0, _, _, _, _, _, _, _, _, _ => False
  | k + 1, r6, r7, r8, r9, r10, r11, r12, r13, K1 => (cond (decide (r10 < r9)) ((0 ≤ r10 ∧ r10 < ((List.length r8 : Nat) : Int)) ∧ (Hold (F_smt_Tree_Get k (List.getD r8 (Int.toNat r10) (S_api_Leaf.mk (List.replicate 32 (0 : Int)) (List.replicate 32 (0 : Int)))).f0 r11 r12 r13 (fun r14 r15 r16 r17 r18 => (cond (!r15) ((Hold (F_smt_knot_with k r6 (List.getD r8 (Int.toNat r10) (S_api_Leaf.mk (List.replicate 32 (0 : Int)) (List.replicate 32 (0 : Int)))).f0 (List.getD r8 (Int.toNat r10) (S_api_Leaf.mk (List.replicate 32 (0 : Int)) (List.replicate 32 (0 : Int)))).f1 (0 : Int) (fun r19 => (Hold (C_smt_Tree_Set_9 k r19 (IntKind.i64.wrap (r7 + (1 : Int))) r8 r9 (IntKind.i64.wrap (r10 + (1 : Int))) r16 r17 r18 K1)))))) ((Hold (F_smt_knot_with k r6 (List.getD r8 (Int.toNat r10) (S_api_Leaf.mk (List.replicate 32 (0 : Int)) (List.replicate 32 (0 : Int)))).f0 (List.getD r8 (Int.toNat r10) (S_api_Leaf.mk (List.replicate 32 (0 : Int)) (List.replicate 32 (0 : Int)))).f1 (0 : Int) (fun r20 => (Hold (C_smt_Tree_Set_9 k r20 r7 r8 r9 (IntKind.i64.wrap (r10 + (1 : Int))) r16 r17 r18 K1))))))))))) ((cond (decide ((4096 : Int) < r7)) (K1 (2 : Int) r11 r12 r13) (K1 (0 : Int) r11 r7 r6))))
def F_smt_Tree_Set_s1 (k : Nat) (r1 : (List S_api_Leaf)) (r2 : Int) (r3 : Int) (r4 : (KT S_api_Leaf)) (K1 : Int → Int → Int → (KT S_api_Leaf) → Prop) : Prop := match k with
  | 0 => False
  | k + 1 => (cond (decide ((4096 : Int) < ((List.length r1 : Nat) : Int))) (K1 (2 : Int) r2 r3 r4) ((Hold (F_smt_twice k r1 (fun r5 => (cond r5 (K1 (30 : Int) r2 r3 r4) ((Hold (C_smt_Tree_Set_9 k r4 r3 r1 ((List.length r1 : Nat) : Int) (0 : Int) r2 r3 r4 K1)))))))))
def F_smt_knot_inner_s1 (k : Nat) (r1 : Int) (r2 : Int) (r3 : Int) (r4 : (List Int)) (r5 : (List Int)) (r6 : (List Int)) (r7 : (KT S_api_Leaf)) (r8 : (KT S_api_Leaf)) (K1 : Bool → Int → Int → Int → (List Int) → (List Int) → (List Int) → (KT S_api_Leaf) → (KT S_api_Leaf) → Prop) : Prop := match k with
  | 0 => False
  | k + 1 => (cond (!(KT.isNil r7)) (K1 true r1 r2 r3 r4 r5 r6 r7 r8) (K1 (!(KT.isNil r8)) r1 r2 r3 r4 r5 r6 r7 r8))
def F_sha_New (k : Nat)  (K0 : (List Int) → (List Int) → Int → Prop) : Prop := match k with
  | 0 => False
  | k + 1 => K0 [(1779033703 : Int), (3144134277 : Int), (1013904242 : Int), (2773480762 : Int), (1359893119 : Int), (2600822924 : Int), (528734635 : Int), (1541459225 : Int)] (List.replicate 64 (0 : Int)) (0 : Int)
def F_math_bits_RotateLeft32 (k : Nat) (r1 : Int) (r2 : Int) (K0 : Int → Prop) : Prop := match k with
  | 0 => False
  | k + 1 => (0 ≤ (iand .u64 (IntKind.u64.wrap r2) (31 : Int))) ∧ (0 ≤ (IntKind.u64.wrap ((32 : Int) - (iand .u64 (IntKind.u64.wrap r2) (31 : Int))))) ∧ K0 (ior .u32 (ishl .u32 r1 (iand .u64 (IntKind.u64.wrap r2) (31 : Int))) (ishr .u32 r1 (IntKind.u64.wrap ((32 : Int) - (iand .u64 (IntKind.u64.wrap r2) (31 : Int))))))
def C_sha_Hash_mix_23 : Nat → (List Int) → Int → (List Int) → (List Int) → Int → ((List Int) → (List Int) → Int → Prop) → Prop
  | 0, _, _, _, _, _, _ => False
  | k + 1, r37, r38, r39, r40, r41, K0 => (cond (decide (r38 < (8 : Int))) ((0 ≤ r38 ∧ r38 < (8 : Int)) ∧ (0 ≤ r38 ∧ r38 < (8 : Int)) ∧ (0 ≤ r38 ∧ r38 < (8 : Int)) ∧ (Hold (C_sha_Hash_mix_23 k r37 (IntKind.i64.wrap (r38 + (1 : Int))) (List.set r39 (Int.toNat r38) (IntKind.u32.wrap ((List.getD r39 (Int.toNat r38) (0 : Int)) + (List.getD r37 (Int.toNat r38) (0 : Int))))) r40 r41 K0))) (K0 r39 r40 r41))
def C_sha_Hash_mix_14 : Nat → Int → Int → Int → Int → Int → Int → Int → Int → (List Int) → Int → (List Int) → (List Int) → Int → ((List Int) → (List Int) → Int → Prop) → Prop
  | 0, _, _, _, _, _, _, _, _, _, _, _, _, _, _ => False
  | k + 1, r18, r19, r20, r21, r22, r23, r24, r25, r26, r27, r28, r29, r30, K0 => (cond (decide (r27 < (64 : Int))) ((0 ≤ r27 ∧ r27 < (64 : Int)) ∧ (Hold (F_math_bits_RotateLeft32 k r22 (-6 : Int) (fun r31 => (Hold (F_math_bits_RotateLeft32 k r22 (-11 : Int) (fun r32 => (Hold (F_math_bits_RotateLeft32 k r22 (-25 : Int) (fun r33 => (0 ≤ r27 ∧ r27 < (64 : Int)) ∧ (Hold (F_math_bits_RotateLeft32 k r18 (-2 : Int) (fun r34 => (Hold (F_math_bits_RotateLeft32 k r18 (-13 : Int) (fun r35 => (Hold (F_math_bits_RotateLeft32 k r18 (-22 : Int) (fun r36 => (Hold (C_sha_Hash_mix_14 k (IntKind.u32.wrap ((IntKind.u32.wrap ((IntKind.u32.wrap ((IntKind.u32.wrap ((IntKind.u32.wrap (r25 + (ixor .u32 (ixor .u32 r31 r32) r33))) + (ixor .u32 (iand .u32 r22 (ixor .u32 r23 r24)) r24))) + (List.getD (List.getD [G_sha_keys] 0 (List.replicate 64 (0 : Int))) (Int.toNat r27) (0 : Int)))) + (List.getD r26 (Int.toNat r27) (0 : Int)))) + (IntKind.u32.wrap ((ixor .u32 (ixor .u32 r34 r35) r36) + (ior .u32 (iand .u32 r18 r19) (iand .u32 r20 (ior .u32 r18 r19))))))) r18 r19 r20 (IntKind.u32.wrap (r21 + (IntKind.u32.wrap ((IntKind.u32.wrap ((IntKind.u32.wrap ((IntKind.u32.wrap (r25 + (ixor .u32 (ixor .u32 r31 r32) r33))) + (ixor .u32 (iand .u32 r22 (ixor .u32 r23 r24)) r24))) + (List.getD (List.getD [G_sha_keys] 0 (List.replicate 64 (0 : Int))) (Int.toNat r27) (0 : Int)))) + (List.getD r26 (Int.toNat r27) (0 : Int)))))) r22 r23 r24 r26 (IntKind.i64.wrap (r27 + (1 : Int))) r28 r29 r30 K0))))))))))))))))))))) ((Hold (C_sha_Hash_mix_23 k [r18, r19, r20, r21, r22, r23, r24, r25] (0 : Int) r28 r29 r30 K0))))
mutual
def C_sha_Hash_mix_11 : Nat → Int → (List Int) → (List Int) → Int → (List Int) → ((List Int) → (List Int) → Int → Prop) → Prop
  | 0, _, _, _, _, _, _ => False
  | k + 1, r9, r10, r11, r12, r13, K0 => (Hold (C_sha_Hash_mix_2 k (IntKind.i64.wrap (r9 + (1 : Int))) r10 r11 r12 r13 K0))
def C_sha_Hash_mix_2 : Nat → Int → (List Int) → (List Int) → Int → (List Int) → ((List Int) → (List Int) → Int → Prop) → Prop
  | 0, _, _, _, _, _, _ => False
  | k + 1, r4, r5, r6, r7, r8, K0 => (cond (decide (r4 < (64 : Int))) ((cond (decide (r4 < (16 : Int))) ((0 ≤ (IntKind.i64.wrap ((4 : Int) * r4)) ∧ (IntKind.i64.wrap ((4 : Int) * r4)) ≤ (64 : Int) ∧ (64 : Int) ≤ (64 : Int)) ∧ (0 ≤ (0 : Int) ∧ (0 : Int) < (((Int.toNat ((64 : Int) - (IntKind.i64.wrap ((4 : Int) * r4)))) : Nat) : Int)) ∧ (0 ≤ (24 : Int)) ∧ (0 ≤ (1 : Int) ∧ (1 : Int) < (((Int.toNat ((64 : Int) - (IntKind.i64.wrap ((4 : Int) * r4)))) : Nat) : Int)) ∧ (0 ≤ (16 : Int)) ∧ (0 ≤ (2 : Int) ∧ (2 : Int) < (((Int.toNat ((64 : Int) - (IntKind.i64.wrap ((4 : Int) * r4)))) : Nat) : Int)) ∧ (0 ≤ (8 : Int)) ∧ (0 ≤ (3 : Int) ∧ (3 : Int) < (((Int.toNat ((64 : Int) - (IntKind.i64.wrap ((4 : Int) * r4)))) : Nat) : Int)) ∧ (0 ≤ r4 ∧ r4 < (64 : Int)) ∧ (Hold (C_sha_Hash_mix_11 k r4 r5 r6 r7 (List.set r8 (Int.toNat r4) (ior .u32 (ior .u32 (ior .u32 (ishl .u32 (IntKind.u32.wrap (List.getD r6 ((Int.toNat (IntKind.i64.wrap ((4 : Int) * r4))) + (Int.toNat (0 : Int))) (0 : Int))) (24 : Int)) (ishl .u32 (IntKind.u32.wrap (List.getD r6 ((Int.toNat (IntKind.i64.wrap ((4 : Int) * r4))) + (Int.toNat (1 : Int))) (0 : Int))) (16 : Int))) (ishl .u32 (IntKind.u32.wrap (List.getD r6 ((Int.toNat (IntKind.i64.wrap ((4 : Int) * r4))) + (Int.toNat (2 : Int))) (0 : Int))) (8 : Int))) (IntKind.u32.wrap (List.getD r6 ((Int.toNat (IntKind.i64.wrap ((4 : Int) * r4))) + (Int.toNat (3 : Int))) (0 : Int))))) K0))) ((0 ≤ (IntKind.i64.wrap (r4 - (15 : Int))) ∧ (IntKind.i64.wrap (r4 - (15 : Int))) < (64 : Int)) ∧ (0 ≤ (IntKind.i64.wrap (r4 - (2 : Int))) ∧ (IntKind.i64.wrap (r4 - (2 : Int))) < (64 : Int)) ∧ (Hold (F_math_bits_RotateLeft32 k (List.getD r8 (Int.toNat (IntKind.i64.wrap (r4 - (15 : Int)))) (0 : Int)) (-7 : Int) (fun r14 => (Hold (F_math_bits_RotateLeft32 k (List.getD r8 (Int.toNat (IntKind.i64.wrap (r4 - (15 : Int)))) (0 : Int)) (-18 : Int) (fun r15 => (0 ≤ (3 : Int)) ∧ (Hold (F_math_bits_RotateLeft32 k (List.getD r8 (Int.toNat (IntKind.i64.wrap (r4 - (2 : Int)))) (0 : Int)) (-17 : Int) (fun r16 => (Hold (F_math_bits_RotateLeft32 k (List.getD r8 (Int.toNat (IntKind.i64.wrap (r4 - (2 : Int)))) (0 : Int)) (-19 : Int) (fun r17 => (0 ≤ (10 : Int)) ∧ (0 ≤ (IntKind.i64.wrap (r4 - (16 : Int))) ∧ (IntKind.i64.wrap (r4 - (16 : Int))) < (64 : Int)) ∧ (0 ≤ (IntKind.i64.wrap (r4 - (7 : Int))) ∧ (IntKind.i64.wrap (r4 - (7 : Int))) < (64 : Int)) ∧ (0 ≤ r4 ∧ r4 < (64 : Int)) ∧ (Hold (C_sha_Hash_mix_11 k r4 r5 r6 r7 (List.set r8 (Int.toNat r4) (IntKind.u32.wrap ((IntKind.u32.wrap ((IntKind.u32.wrap ((List.getD r8 (Int.toNat (IntKind.i64.wrap (r4 - (16 : Int)))) (0 : Int)) + (ixor .u32 (ixor .u32 r14 r15) (ishr .u32 (List.getD r8 (Int.toNat (IntKind.i64.wrap (r4 - (15 : Int)))) (0 : Int)) (3 : Int))))) + (List.getD r8 (Int.toNat (IntKind.i64.wrap (r4 - (7 : Int)))) (0 : Int)))) + (ixor .u32 (ixor .u32 r16 r17) (ishr .u32 (List.getD r8 (Int.toNat (IntKind.i64.wrap (r4 - (2 : Int)))) (0 : Int)) (10 : Int)))))) K0))))))))))))))))) ((0 ≤ (0 : Int) ∧ (0 : Int) < (8 : Int)) ∧ (0 ≤ (1 : Int) ∧ (1 : Int) < (8 : Int)) ∧ (0 ≤ (2 : Int) ∧ (2 : Int) < (8 : Int)) ∧ (0 ≤ (3 : Int) ∧ (3 : Int) < (8 : Int)) ∧ (0 ≤ (4 : Int) ∧ (4 : Int) < (8 : Int)) ∧ (0 ≤ (5 : Int) ∧ (5 : Int) < (8 : Int)) ∧ (0 ≤ (6 : Int) ∧ (6 : Int) < (8 : Int)) ∧ (0 ≤ (7 : Int) ∧ (7 : Int) < (8 : Int)) ∧ (Hold (C_sha_Hash_mix_14 k (List.getD r5 (Int.toNat (0 : Int)) (0 : Int)) (List.getD r5 (Int.toNat (1 : Int)) (0 : Int)) (List.getD r5 (Int.toNat (2 : Int)) (0 : Int)) (List.getD r5 (Int.toNat (3 : Int)) (0 : Int)) (List.getD r5 (Int.toNat (4 : Int)) (0 : Int)) (List.getD r5 (Int.toNat (5 : Int)) (0 : Int)) (List.getD r5 (Int.toNat (6 : Int)) (0 : Int)) (List.getD r5 (Int.toNat (7 : Int)) (0 : Int)) r8 (0 : Int) r5 r6 r7 K0))))
end
def F_sha_Hash_mix (k : Nat) (r1 : (List Int)) (r2 : (List Int)) (r3 : Int) (K0 : (List Int) → (List Int) → Int → Prop) : Prop := match k with
  | 0 => False
  | k + 1 => (Hold (C_sha_Hash_mix_2 k (0 : Int) r1 r2 r3 (List.replicate 64 (0 : Int)) K0))
def C_sha_Hash_Write_3 : Nat → (List Int) → (List Int) → (List Int) → Int → (Int → (List Int) → (List Int) → Int → Prop) → Prop
  | 0, _, _, _, _, _ => False
  | k + 1, r5, r6, r7, r8, K0 => (cond (decide ((0 : Int) < ((List.length r5 : Nat) : Int))) (((64 : Int) ≠ 0) ∧ (0 ≤ (Int.tmod r8 (64 : Int)) ∧ (Int.tmod r8 (64 : Int)) ≤ (64 : Int) ∧ (64 : Int) ≤ (64 : Int)) ∧ (0 ≤ (((Nat.min (List.length r5) (Int.toNat ((64 : Int) - (Int.tmod r8 (64 : Int))))) : Nat) : Int) ∧ (((Nat.min (List.length r5) (Int.toNat ((64 : Int) - (Int.tmod r8 (64 : Int))))) : Nat) : Int) ≤ ((List.length r5 : Nat) : Int)) ∧ ((64 : Int) ≠ 0) ∧ (cond (decide ((Int.tmod (IntKind.i64.wrap (r8 + (((Nat.min (List.length r5) (Int.toNat ((64 : Int) - (Int.tmod r8 (64 : Int))))) : Nat) : Int))) (64 : Int)) = (0 : Int))) ((Hold (F_sha_Hash_mix k r6 (splice r7 (Int.toNat (Int.tmod r8 (64 : Int))) r5 (Nat.min (List.length r5) (Int.toNat ((64 : Int) - (Int.tmod r8 (64 : Int)))))) (IntKind.i64.wrap (r8 + (((Nat.min (List.length r5) (Int.toNat ((64 : Int) - (Int.tmod r8 (64 : Int))))) : Nat) : Int))) (fun r9 r10 r11 => (Hold (C_sha_Hash_Write_3 k (List.drop (Int.toNat (((Nat.min (List.length r5) (Int.toNat ((64 : Int) - (Int.tmod r8 (64 : Int))))) : Nat) : Int)) r5) r9 r10 r11 K0)))))) ((Hold (C_sha_Hash_Write_3 k (List.drop (Int.toNat (((Nat.min (List.length r5) (Int.toNat ((64 : Int) - (Int.tmod r8 (64 : Int))))) : Nat) : Int)) r5) r6 (splice r7 (Int.toNat (Int.tmod r8 (64 : Int))) r5 (Nat.min (List.length r5) (Int.toNat ((64 : Int) - (Int.tmod r8 (64 : Int)))))) (IntKind.i64.wrap (r8 + (((Nat.min (List.length r5) (Int.toNat ((64 : Int) - (Int.tmod r8 (64 : Int))))) : Nat) : Int))) K0))))) (K0 (0 : Int) r6 r7 r8))
def F_sha_Hash_Write (k : Nat) (r1 : (List Int)) (r2 : (List Int)) (r3 : (List Int)) (r4 : Int) (K0 : Int → (List Int) → (List Int) → Int → Prop) : Prop := match k with
  | 0 => False
  | k + 1 => (Hold (C_sha_Hash_Write_3 k r1 r2 r3 r4 K0))
def C_sha_Hash_Sum_15 : Nat → Int → (List Int) → (List Int) → Int → (List Int) → (List Int) → (List Int) → (List Int) → Int → ((List Int) → (List Int) → (List Int) → Int → Prop) → Prop
  | 0, _, _, _, _, _, _, _, _, _, _ => False
  | k + 1, r23, r24, r25, r26, r27, r28, r29, r30, r31, K0 => (cond (decide (r23 < (32 : Int))) (((4 : Int) ≠ 0) ∧ (0 ≤ (IntKind.i64.wrap (Int.tdiv r23 (4 : Int))) ∧ (IntKind.i64.wrap (Int.tdiv r23 (4 : Int))) < (8 : Int)) ∧ ((4 : Int) ≠ 0) ∧ (0 ≤ (IntKind.i64.wrap ((24 : Int) - (IntKind.i64.wrap ((8 : Int) * (Int.tmod r23 (4 : Int))))))) ∧ (0 ≤ r23 ∧ r23 < (32 : Int)) ∧ (Hold (C_sha_Hash_Sum_15 k (IntKind.i64.wrap (r23 + (1 : Int))) r24 r25 r26 r27 (List.set r28 (Int.toNat r23) (IntKind.u8.wrap (ishr .u32 (List.getD r29 (Int.toNat (IntKind.i64.wrap (Int.tdiv r23 (4 : Int)))) (0 : Int)) (IntKind.i64.wrap ((24 : Int) - (IntKind.i64.wrap ((8 : Int) * (Int.tmod r23 (4 : Int))))))))) r29 r30 r31 K0))) (K0 r28 r24 r25 r26))
def C_sha_Hash_Sum_9 : Nat → Int → Int → (List Int) → (List Int) → Int → (List Int) → (List Int) → (List Int) → (List Int) → Int → (List Int) → ((List Int) → (List Int) → (List Int) → Int → Prop) → Prop
  | 0, _, _, _, _, _, _, _, _, _, _, _, _ => False
  | k + 1, r8, r9, r10, r11, r12, r13, r14, r15, r16, r17, r18, K0 => (cond (decide (r9 < (8 : Int))) ((0 ≤ (IntKind.i64.wrap ((56 : Int) - (IntKind.i64.wrap ((8 : Int) * r9))))) ∧ (0 ≤ (IntKind.i64.wrap (r8 + r9)) ∧ (IntKind.i64.wrap (r8 + r9)) < (72 : Int)) ∧ (Hold (C_sha_Hash_Sum_9 k r8 (IntKind.i64.wrap (r9 + (1 : Int))) r10 r11 r12 r13 r14 r15 r16 r17 (List.set r18 (Int.toNat (IntKind.i64.wrap (r8 + r9))) (IntKind.u8.wrap (ishr .u64 (IntKind.u64.wrap ((IntKind.u64.wrap r12) * (8 : Int))) (IntKind.i64.wrap ((56 : Int) - (IntKind.i64.wrap ((8 : Int) * r9))))))) K0))) ((0 ≤ (0 : Int) ∧ (0 : Int) ≤ (IntKind.i64.wrap (r8 + (8 : Int))) ∧ (IntKind.i64.wrap (r8 + (8 : Int))) ≤ (72 : Int)) ∧ (Hold (F_sha_Hash_Write k (cut r18 (Int.toNat (0 : Int)) (Int.toNat ((IntKind.i64.wrap (r8 + (8 : Int))) - (0 : Int)))) r15 r16 r17 (fun r19 r20 r21 r22 => (Hold (C_sha_Hash_Sum_15 k (0 : Int) r10 r11 r12 r13 r14 r20 r21 r22 K0)))))))
def F_sha_Hash_Sum (k : Nat) (r1 : (List Int)) (r2 : (List Int)) (r3 : Int) (K0 : (List Int) → (List Int) → (List Int) → Int → Prop) : Prop := match k with
  | 0 => False
  | k + 1 => (Hold (F_sha_Hash_Write k [(128 : Int)] r1 r2 r3 (fun r4 r5 r6 r7 => ((64 : Int) ≠ 0) ∧ ((64 : Int) ≠ 0) ∧ (Hold (C_sha_Hash_Sum_9 k (Int.tmod (IntKind.i64.wrap ((120 : Int) - (Int.tmod r7 (64 : Int)))) (64 : Int)) (0 : Int) r1 r2 r3 (List.replicate 32 (0 : Int)) (List.replicate 32 (0 : Int)) r5 r6 r7 (List.replicate 72 (0 : Int)) K0)))))
def C_smt_short_4 : Nat → (List Int) → (List Int) → ((List Int) → Prop) → Prop
  | 0, _, _, _ => False
  | k + 1, r4, r5, K0 => K0 r5
def F_smt_short (k : Nat) (r1 : Int) (r2 : (List Int)) (K0 : (List Int) → Prop) : Prop := match k with
  | 0 => False
  | k + 1 => (Hold (F_smt_width k r1 (fun r3 => (cond r3 ((0 ≤ (0 : Int) ∧ (0 : Int) ≤ r1 ∧ r1 ≤ (32 : Int)) ∧ (0 ≤ (0 : Int) ∧ (0 : Int) ≤ (32 : Int) ∧ (32 : Int) ≤ (32 : Int)) ∧ (Hold (C_smt_short_4 k (List.replicate 32 (0 : Int)) (splice (List.replicate 32 (0 : Int)) (Int.toNat (0 : Int)) (cut r2 (Int.toNat (0 : Int)) (Int.toNat ((32 : Int) - (0 : Int)))) (Nat.min (List.length (cut r2 (Int.toNat (0 : Int)) (Int.toNat ((32 : Int) - (0 : Int))))) (Int.toNat (r1 - (0 : Int))))) K0))) ((Hold (C_smt_short_4 k (List.replicate 32 (0 : Int)) (List.replicate 32 (0 : Int)) K0)))))))
def C_smt_summed_4 : Nat → Int → (List (List Int)) → Int → Int → (List Int) → (List Int) → (List Int) → Int → ((List Int) → Prop) → Prop
  | 0, _, _, _, _, _, _, _, _, _ => False
  | k + 1, r11, r12, r13, r14, r15, r16, r17, r18, K0 => (cond (decide (r14 < r13)) ((0 ≤ r14 ∧ r14 < ((List.length r12 : Nat) : Int)) ∧ (0 ≤ (0 : Int) ∧ (0 : Int) ≤ (32 : Int) ∧ (32 : Int) ≤ (32 : Int)) ∧ (Hold (F_sha_Hash_Write k (cut (List.getD r12 (Int.toNat r14) (List.replicate 32 (0 : Int))) (Int.toNat (0 : Int)) (Int.toNat ((32 : Int) - (0 : Int)))) r16 r17 r18 (fun r19 r20 r21 r22 => (Hold (C_smt_summed_4 k r11 r12 r13 (IntKind.i64.wrap (r14 + (1 : Int))) r15 r20 r21 r22 K0)))))) ((Hold (F_sha_Hash_Sum k r16 r17 r18 (fun r23 r24 r25 r26 => (Hold (F_smt_short k r11 r23 (fun r27 => K0 r27))))))))
def F_smt_summed (k : Nat) (r1 : Int) (r2 : Int) (r3 : (List (List Int))) (K0 : (List Int) → Prop) : Prop := match k with
  | 0 => False
  | k + 1 => (Hold (F_sha_New k (fun r4 r5 r6 => (Hold (F_sha_Hash_Write k [r2] r4 r5 r6 (fun r7 r8 r9 r10 => (Hold (C_smt_summed_4 k r1 r3 ((List.length r3 : Nat) : Int) (0 : Int) (List.replicate 32 (0 : Int)) r8 r9 r10 K0))))))))
def F_smt_Node (k : Nat) (r1 : Int) (r2 : (List Int)) (r3 : (List Int)) (K0 : (List Int) → Prop) : Prop := match k with
  | 0 => False
  | k + 1 => (Hold (F_smt_summed k r1 (1 : Int) [r2, r3] (fun r4 => K0 r4)))
def F_smt_Leaf (k : Nat) (r1 : Int) (r2 : (List Int)) (r3 : (List Int)) (K0 : (List Int) → Prop) : Prop := match k with
  | 0 => False
  | k + 1 => (Hold (F_smt_summed k r1 (0 : Int) [r2, r3] (fun r4 => K0 r4)))
def F_smt_knot_digest (k : Nat) (r1 : (KT S_api_Leaf)) (r2 : Int) (K0 : (List Int) → Prop) : Prop := match k with
  | 0 => False
  | k + 1 => (digBound r1 ≤ k ∧ (0 ≤ r2 ∧ r2 ≤ 32) ∧ allG r2 r1) ∧ K0 (digT r2 r1)
def F_smt_knot_digest_1 (k : Nat) (r1 : Int) (r2 : Int) (r3 : Int) (r4 : Int) (r5 : (List Int)) (r6 : (List Int)) (r7 : (List Int)) (r8 : (KT S_api_Leaf)) (r9 : (KT S_api_Leaf)) (K0 : Int → Int → Int → Int → (List Int) → (List Int) → (List Int) → (KT S_api_Leaf) → (KT S_api_Leaf) → Prop) : Prop := match k with
  | 0 => False
  | k + 1 => (Hold (F_smt_knot_inner_s1 k r2 r3 r4 r5 r6 r7 r8 r9 (fun r10 r11 r12 r13 r14 r15 r16 r17 r18 => (cond r10 ((Hold (F_smt_knot_digest k r17 r1 (fun r19 => (Hold (F_smt_knot_digest k r18 r1 (fun r20 => (Hold (F_smt_Node k r1 r19 r20 (fun r21 => K0 r1 r11 r12 r13 r21 r15 r16 r17 r18)))))))))) ((Hold (F_smt_Leaf k r1 r15 r16 (fun r22 => K0 r1 r11 r12 r13 r22 r15 r16 r17 r18))))))))
def F_smt_Empty (k : Nat) (r1 : Int) (K0 : (List Int) → Prop) : Prop := match k with
  | 0 => False
  | k + 1 => (Hold (F_smt_summed k r1 (2 : Int) [] (fun r2 => K0 r2)))
def F_smt_Tree_Root_s1 (k : Nat) (r1 : Int) (r2 : Int) (r3 : (KT S_api_Leaf)) (K1 : (List Int) → Int → Int → (KT S_api_Leaf) → Prop) : Prop := match k with
  | 0 => False
  | k + 1 => (Hold (F_smt_knot_digest k r3 r1 (fun r4 => K1 r4 r1 r2 r3)))
def C_smt_Root_3 : Nat → Int → (List Int) → ((List Int) → Int → Prop) → Prop
  | 0, _, _, _ => False
  | k + 1, r7, r8, K0 => K0 [(0 : Int), (0 : Int), (0 : Int), (0 : Int), (0 : Int), (0 : Int), (0 : Int), (0 : Int), (0 : Int), (0 : Int), (0 : Int), (0 : Int), (0 : Int), (0 : Int), (0 : Int), (0 : Int), (0 : Int), (0 : Int), (0 : Int), (0 : Int), (0 : Int), (0 : Int), (0 : Int), (0 : Int), (0 : Int), (0 : Int), (0 : Int), (0 : Int), (0 : Int), (0 : Int), (0 : Int), (0 : Int)] r7
def C_smt_Root_6 : Nat → Int → (List Int) → ((List Int) → Int → Prop) → Prop
  | 0, _, _, _ => False
  | k + 1, r14, r15, K0 => K0 [(0 : Int), (0 : Int), (0 : Int), (0 : Int), (0 : Int), (0 : Int), (0 : Int), (0 : Int), (0 : Int), (0 : Int), (0 : Int), (0 : Int), (0 : Int), (0 : Int), (0 : Int), (0 : Int), (0 : Int), (0 : Int), (0 : Int), (0 : Int), (0 : Int), (0 : Int), (0 : Int), (0 : Int), (0 : Int), (0 : Int), (0 : Int), (0 : Int), (0 : Int), (0 : Int), (0 : Int), (0 : Int)] r14
def C_smt_Root_5 : Nat → Int → (List Int) → ((List Int) → Int → Prop) → Prop
  | 0, _, _, _ => False
  | k + 1, r12, r13, K0 => (cond (!decide (r12 = (0 : Int))) ((Hold (C_smt_Root_6 k r12 r13 K0))) ((Hold (F_smt_Tree_Root k (fun r16 => K0 r16 (0 : Int))))))
def C_smt_Root_4 : Nat → (List S_api_Leaf) → (List Int) → ((List Int) → Int → Prop) → Prop
  | 0, _, _, _ => False
  | k + 1, r9, r10, K0 => (Hold (F_smt_Tree_Set k r9 (fun r11 => (Hold (C_smt_Root_5 k r11 r10 K0)))))
def C_smt_Root_2 : Nat → (List S_api_Leaf) → Int → (List Int) → ((List Int) → Int → Prop) → Prop
  | 0, _, _, _, _ => False
  | k + 1, r4, r5, r6, K0 => (cond (!decide (r5 = (0 : Int))) ((Hold (C_smt_Root_3 k r5 r6 K0))) ((Hold (C_smt_Root_4 k r4 r6 K0))))
def C_smt_Root_5_1 : Nat → Int → (List Int) → Int → Int → (KT S_api_Leaf) → ((List Int) → Int → Prop) → Prop
  | 0, _, _, _, _, _, _ => False
  | k + 1, r36, r37, r38, r39, r40, K0 => (cond (!decide (r36 = (0 : Int))) ((Hold (C_smt_Root_6 k r36 r37 K0))) ((Hold (F_smt_Tree_Root_s1 k r38 r39 r40 (fun r41 r42 r43 r44 => K0 r41 (0 : Int))))))
def C_smt_Root_4_1 : Nat → (List S_api_Leaf) → (List Int) → Int → Int → (KT S_api_Leaf) → ((List Int) → Int → Prop) → Prop
  | 0, _, _, _, _, _, _ => False
  | k + 1, r27, r28, r29, r30, r31, K0 => (Hold (F_smt_Tree_Set_s1 k r27 r29 r30 r31 (fun r32 r33 r34 r35 => (Hold (C_smt_Root_5_1 k r32 r28 r33 r34 r35 K0)))))
def C_smt_Root_2_1 : Nat → (List S_api_Leaf) → Int → (List Int) → Int → Int → (KT S_api_Leaf) → ((List Int) → Int → Prop) → Prop
  | 0, _, _, _, _, _, _, _ => False
  | k + 1, r21, r22, r23, r24, r25, r26, K0 => (cond (!decide (r22 = (0 : Int))) ((Hold (C_smt_Root_3 k r22 r23 K0))) ((Hold (C_smt_Root_4_1 k r21 r23 r24 r25 r26 K0))))
def F_smt_Root (k : Nat) (r1 : Int) (r2 : (List S_api_Leaf)) (K0 : (List Int) → Int → Prop) : Prop := match k with
  | 0 => False
  | k + 1 => (Hold (F_smt_New k r1 (fun r3 => (Hold (C_smt_Root_2 k r2 r3 (List.replicate 32 (0 : Int)) K0))) (fun r17 r18 r19 r20 => (Hold (C_smt_Root_2_1 k r2 r17 (List.replicate 32 (0 : Int)) r18 r19 r20 K0)))))
def F_proof_right (k : Nat) (r1 : (List Int)) (r2 : Int) (K0 : Bool → Prop) : Prop := match k with
  | 0 => False
  | k + 1 => (Hold (F_path_Bit k r1 r2 (fun r3 r4 => K0 (decide (r3 = (1 : Int))))))
def F_proof_at_1 (k : Nat) (r1 : (List Int)) (r2 : (List Int)) (r3 : Int) (K0 : Bool → Int → Prop) : Prop := match k with
  | 0 => False
  | k + 1 => (Hold (F_proof_right k r1 r3 (fun r4 => K0 r4 r3)))
def C_slices_IndexFunc_api_Leaf_api_Leaf_2 : Nat → (List S_api_Leaf) → Int → Int → Int → (Int → Int → Prop) → Prop
  | 0, _, _, _, _, _ => False
  | k + 1, r3, r4, r5, r6, K0 => (cond (decide (r5 < r4)) ((0 ≤ r5 ∧ r5 < ((List.length r3 : Nat) : Int)) ∧ (Hold (F_proof_at_1 k (List.getD r3 (Int.toNat r5) (S_api_Leaf.mk (List.replicate 32 (0 : Int)) (List.replicate 32 (0 : Int)))).f0 (List.getD r3 (Int.toNat r5) (S_api_Leaf.mk (List.replicate 32 (0 : Int)) (List.replicate 32 (0 : Int)))).f1 r6 (fun r7 r8 => (cond r7 (K0 r5 r8) ((Hold (C_slices_IndexFunc_api_Leaf_api_Leaf_2 k r3 r4 (IntKind.i64.wrap (r5 + (1 : Int))) r8 K0)))))))) (K0 (-1 : Int) r6))
def F_slices_IndexFunc_api_Leaf_api_Leaf (k : Nat) (r1 : (List S_api_Leaf)) (r2 : Int) (K0 : Int → Int → Prop) : Prop := match k with
  | 0 => False
  | k + 1 => (Hold (C_slices_IndexFunc_api_Leaf_api_Leaf_2 k r1 ((List.length r1 : Nat) : Int) (0 : Int) r2 K0))
mutual
def F_proof_at : Nat → Int → (List S_api_Leaf) → Int → ((List Int) → Prop) → Prop
  | 0, _, _, _, _ => False
  | k + 1, r1, r2, r3, K0 => (cond (decide (((List.length r2 : Nat) : Int) = (0 : Int))) ((Hold (F_smt_Empty k r1 (fun r4 => K0 r4)))) ((cond (decide (((List.length r2 : Nat) : Int) = (1 : Int))) ((0 ≤ (0 : Int) ∧ (0 : Int) < ((List.length r2 : Nat) : Int)) ∧ (Hold (F_smt_Leaf k r1 (List.getD r2 (Int.toNat (0 : Int)) (S_api_Leaf.mk (List.replicate 32 (0 : Int)) (List.replicate 32 (0 : Int)))).f0 (List.getD r2 (Int.toNat (0 : Int)) (S_api_Leaf.mk (List.replicate 32 (0 : Int)) (List.replicate 32 (0 : Int)))).f1 (fun r5 => K0 r5)))) ((Hold (F_slices_IndexFunc_api_Leaf_api_Leaf k r2 r3 (fun r6 r7 => (cond (decide (r6 < (0 : Int))) ((Hold (F_proof_at k r1 r2 (IntKind.i64.wrap (r7 + (1 : Int))) (fun r8 => (Hold (F_smt_Empty k r1 (fun r9 => (Hold (F_smt_Node k r1 r8 r9 (fun r10 => K0 r10)))))))))) ((Hold (C_proof_at_11 k r1 r2 ((List.length r2 : Nat) : Int) (0 : Int) r7 (List.replicate 32 (0 : Int)) [] [] K0)))))))))))
def C_proof_at_16 : Nat → Int → (List S_api_Leaf) → Int → Int → Int → (List Int) → (List S_api_Leaf) → (List S_api_Leaf) → ((List Int) → Prop) → Prop
  | 0, _, _, _, _, _, _, _, _, _ => False
  | k + 1, r20, r21, r22, r23, r24, r25, r26, r27, K0 => (Hold (C_proof_at_11 k r20 r21 r22 (IntKind.i64.wrap (r23 + (1 : Int))) r24 r25 r26 r27 K0))
def C_proof_at_11 : Nat → Int → (List S_api_Leaf) → Int → Int → Int → (List Int) → (List S_api_Leaf) → (List S_api_Leaf) → ((List Int) → Prop) → Prop
  | 0, _, _, _, _, _, _, _, _, _ => False
  | k + 1, r11, r12, r13, r14, r15, r16, r17, r18, K0 => (cond (decide (r14 < r13)) ((0 ≤ r14 ∧ r14 < ((List.length r12 : Nat) : Int)) ∧ (Hold (F_proof_right k (List.getD r12 (Int.toNat r14) (S_api_Leaf.mk (List.replicate 32 (0 : Int)) (List.replicate 32 (0 : Int)))).f0 r15 (fun r19 => (cond r19 ((room (List.length r18 + List.length [(S_api_Leaf.mk (List.getD r12 (Int.toNat r14) (S_api_Leaf.mk (List.replicate 32 (0 : Int)) (List.replicate 32 (0 : Int)))).f0 (List.getD r12 (Int.toNat r14) (S_api_Leaf.mk (List.replicate 32 (0 : Int)) (List.replicate 32 (0 : Int)))).f1)]) 64) ∧ (Hold (C_proof_at_16 k r11 r12 r13 r14 r15 r16 r17 (r18 ++ [(S_api_Leaf.mk (List.getD r12 (Int.toNat r14) (S_api_Leaf.mk (List.replicate 32 (0 : Int)) (List.replicate 32 (0 : Int)))).f0 (List.getD r12 (Int.toNat r14) (S_api_Leaf.mk (List.replicate 32 (0 : Int)) (List.replicate 32 (0 : Int)))).f1)]) K0))) ((room (List.length r17 + List.length [(S_api_Leaf.mk (List.getD r12 (Int.toNat r14) (S_api_Leaf.mk (List.replicate 32 (0 : Int)) (List.replicate 32 (0 : Int)))).f0 (List.getD r12 (Int.toNat r14) (S_api_Leaf.mk (List.replicate 32 (0 : Int)) (List.replicate 32 (0 : Int)))).f1)]) 64) ∧ (Hold (C_proof_at_16 k r11 r12 r13 r14 r15 r16 (r17 ++ [(S_api_Leaf.mk (List.getD r12 (Int.toNat r14) (S_api_Leaf.mk (List.replicate 32 (0 : Int)) (List.replicate 32 (0 : Int)))).f0 (List.getD r12 (Int.toNat r14) (S_api_Leaf.mk (List.replicate 32 (0 : Int)) (List.replicate 32 (0 : Int)))).f1)]) r18 K0)))))))) ((Hold (F_proof_at k r11 r17 (IntKind.i64.wrap (r15 + (1 : Int))) (fun r28 => (Hold (F_proof_at k r11 r18 (IntKind.i64.wrap (r15 + (1 : Int))) (fun r29 => (Hold (F_smt_Node k r11 r28 r29 (fun r30 => K0 r30)))))))))))
end
def C_proof_Make_22 : Nat → Bool → (List Int) → Bool → (List Int) → (List Int) → (List (List Int)) → (Bool → (List Int) → (List (List Int)) → Bool → (List Int) → (List Int) → Int → Prop) → Prop
  | 0, _, _, _, _, _, _, _ => False
  | k + 1, r48, r49, r50, r51, r52, r53, K0 => K0 r48 r49 r53 r50 r51 r52 (0 : Int)
mutual
def C_proof_Make_15 : Nat → Int → Int → Int → Int → (List Int) → Bool → (List Int) → Bool → (List Int) → (List Int) → (List S_api_Leaf) → (List S_api_Leaf) → (List S_api_Leaf) → (List (List Int)) → (Bool → (List Int) → (List (List Int)) → Bool → (List Int) → (List Int) → Int → Prop) → Prop
  | 0, _, _, _, _, _, _, _, _, _, _, _, _, _, _, _ => False
  | k + 1, r33, r34, r35, r36, r37, r38, r39, r40, r41, r42, r43, r44, r45, r46, K0 => (Hold (C_proof_Make_10 k r33 r34 r35 (IntKind.i64.wrap (r36 + (1 : Int))) r37 r38 r39 r40 r41 r42 r43 r44 r45 r46 K0))
def C_proof_Make_10 : Nat → Int → Int → Int → Int → (List Int) → Bool → (List Int) → Bool → (List Int) → (List Int) → (List S_api_Leaf) → (List S_api_Leaf) → (List S_api_Leaf) → (List (List Int)) → (Bool → (List Int) → (List (List Int)) → Bool → (List Int) → (List Int) → Int → Prop) → Prop
  | 0, _, _, _, _, _, _, _, _, _, _, _, _, _, _, _ => False
  | k + 1, r17, r18, r19, r20, r21, r22, r23, r24, r25, r26, r27, r28, r29, r30, K0 => (cond (decide (r20 < r19)) ((0 ≤ r20 ∧ r20 < ((List.length r29 : Nat) : Int)) ∧ (Hold (F_proof_right k (List.getD r29 (Int.toNat r20) (S_api_Leaf.mk (List.replicate 32 (0 : Int)) (List.replicate 32 (0 : Int)))).f0 r18 (fun r31 => (Hold (F_proof_right k r21 r18 (fun r32 => (cond (r31 == r32) ((room (List.length r28 + List.length [(S_api_Leaf.mk (List.getD r29 (Int.toNat r20) (S_api_Leaf.mk (List.replicate 32 (0 : Int)) (List.replicate 32 (0 : Int)))).f0 (List.getD r29 (Int.toNat r20) (S_api_Leaf.mk (List.replicate 32 (0 : Int)) (List.replicate 32 (0 : Int)))).f1)]) 64) ∧ (Hold (C_proof_Make_15 k r17 r18 r19 r20 r21 r22 r23 r24 r25 r26 r27 (r28 ++ [(S_api_Leaf.mk (List.getD r29 (Int.toNat r20) (S_api_Leaf.mk (List.replicate 32 (0 : Int)) (List.replicate 32 (0 : Int)))).f0 (List.getD r29 (Int.toNat r20) (S_api_Leaf.mk (List.replicate 32 (0 : Int)) (List.replicate 32 (0 : Int)))).f1)]) r29 r30 K0))) ((room (List.length r27 + List.length [(S_api_Leaf.mk (List.getD r29 (Int.toNat r20) (S_api_Leaf.mk (List.replicate 32 (0 : Int)) (List.replicate 32 (0 : Int)))).f0 (List.getD r29 (Int.toNat r20) (S_api_Leaf.mk (List.replicate 32 (0 : Int)) (List.replicate 32 (0 : Int)))).f1)]) 64) ∧ (Hold (C_proof_Make_15 k r17 r18 r19 r20 r21 r22 r23 r24 r25 r26 (r27 ++ [(S_api_Leaf.mk (List.getD r29 (Int.toNat r20) (S_api_Leaf.mk (List.replicate 32 (0 : Int)) (List.replicate 32 (0 : Int)))).f0 (List.getD r29 (Int.toNat r20) (S_api_Leaf.mk (List.replicate 32 (0 : Int)) (List.replicate 32 (0 : Int)))).f1)]) r28 r29 r30 K0))))))))))) ((Hold (F_proof_at k r17 r27 (IntKind.i64.wrap (r18 + (1 : Int))) (fun r47 => (room (List.length r30 + List.length [r47]) 32) ∧ (Hold (C_proof_Make_6 k r17 (IntKind.i64.wrap (r18 + (1 : Int))) r21 r22 r23 r24 r25 r26 r28 (r30 ++ [r47]) K0)))))))
def C_proof_Make_6 : Nat → Int → Int → (List Int) → Bool → (List Int) → Bool → (List Int) → (List Int) → (List S_api_Leaf) → (List (List Int)) → (Bool → (List Int) → (List (List Int)) → Bool → (List Int) → (List Int) → Int → Prop) → Prop
  | 0, _, _, _, _, _, _, _, _, _, _, _ => False
  | k + 1, r7, r8, r9, r10, r11, r12, r13, r14, r15, r16, K0 => (cond (decide ((1 : Int) < ((List.length r15 : Nat) : Int))) ((Hold (C_proof_Make_10 k r7 r8 ((List.length r15 : Nat) : Int) (0 : Int) r9 r10 r11 r12 r13 r14 [] [] r15 r16 K0))) ((cond (decide (((List.length r15 : Nat) : Int) = (0 : Int))) ((Hold (C_proof_Make_22 k r10 r11 r12 r13 r14 r16 K0))) ((0 ≤ (0 : Int) ∧ (0 : Int) < ((List.length r15 : Nat) : Int)) ∧ (cond (decide ((List.getD r15 (Int.toNat (0 : Int)) (S_api_Leaf.mk (List.replicate 32 (0 : Int)) (List.replicate 32 (0 : Int)))).f0 = r9)) ((0 ≤ (0 : Int) ∧ (0 : Int) < ((List.length r15 : Nat) : Int)) ∧ (Hold (C_proof_Make_22 k true (List.getD r15 (Int.toNat (0 : Int)) (S_api_Leaf.mk (List.replicate 32 (0 : Int)) (List.replicate 32 (0 : Int)))).f1 r12 r13 r14 r16 K0))) ((0 ≤ (0 : Int) ∧ (0 : Int) < ((List.length r15 : Nat) : Int)) ∧ (0 ≤ (0 : Int) ∧ (0 : Int) < ((List.length r15 : Nat) : Int)) ∧ (Hold (C_proof_Make_22 k r10 r11 true (List.getD r15 (Int.toNat (0 : Int)) (S_api_Leaf.mk (List.replicate 32 (0 : Int)) (List.replicate 32 (0 : Int)))).f0 (List.getD r15 (Int.toNat (0 : Int)) (S_api_Leaf.mk (List.replicate 32 (0 : Int)) (List.replicate 32 (0 : Int)))).f1 r16 K0))))))))
end
def F_proof_Make (k : Nat) (r1 : Int) (r2 : (List S_api_Leaf)) (r3 : (List Int)) (K0 : Bool → (List Int) → (List (List Int)) → Bool → (List Int) → (List Int) → Int → Prop) : Prop := match k with
  | 0 => False
  | k + 1 => (Hold (F_smt_Root k r1 r2 (fun r4 r5 => (cond (!decide (r5 = (0 : Int))) (K0 false (List.replicate 32 (0 : Int)) [] false (List.replicate 32 (0 : Int)) (List.replicate 32 (0 : Int)) r5) ((Hold (F_slices_Clone_api_Leaf_api_Leaf k r2 (fun r6 => (Hold (C_proof_Make_6 k r1 (0 : Int) r3 false (List.replicate 32 (0 : Int)) false (List.replicate 32 (0 : Int)) (List.replicate 32 (0 : Int)) r6 [] K0))))))))))
def F_r05_Width (k : Nat) (r1 : Int) (K0 : Bool → Prop) : Prop := match k with
  | 0 => False
  | k + 1 => (cond (decide ((0 : Int) ≤ r1)) (K0 (decide (r1 ≤ (32 : Int)))) (K0 false))
def F_l06_a (k : Nat)  (K0 : (List Int) → (List Int) → Prop) : Prop := match k with
  | 0 => False
  | k + 1 => K0 (List.replicate 32 (0 : Int)) [(5 : Int), (0 : Int), (0 : Int), (0 : Int), (0 : Int), (0 : Int), (0 : Int), (0 : Int), (0 : Int), (0 : Int), (0 : Int), (0 : Int), (0 : Int), (0 : Int), (0 : Int), (0 : Int), (0 : Int), (0 : Int), (0 : Int), (0 : Int), (0 : Int), (0 : Int), (0 : Int), (0 : Int), (0 : Int), (0 : Int), (0 : Int), (0 : Int), (0 : Int), (0 : Int), (0 : Int), (0 : Int)]
def F_l06_b (k : Nat)  (K0 : (List Int) → (List Int) → Prop) : Prop := match k with
  | 0 => False
  | k + 1 => K0 [(128 : Int), (0 : Int), (0 : Int), (0 : Int), (0 : Int), (0 : Int), (0 : Int), (0 : Int), (0 : Int), (0 : Int), (0 : Int), (0 : Int), (0 : Int), (0 : Int), (0 : Int), (0 : Int), (0 : Int), (0 : Int), (0 : Int), (0 : Int), (0 : Int), (0 : Int), (0 : Int), (0 : Int), (0 : Int), (0 : Int), (0 : Int), (0 : Int), (0 : Int), (0 : Int), (0 : Int), (0 : Int)] [(6 : Int), (0 : Int), (0 : Int), (0 : Int), (0 : Int), (0 : Int), (0 : Int), (0 : Int), (0 : Int), (0 : Int), (0 : Int), (0 : Int), (0 : Int), (0 : Int), (0 : Int), (0 : Int), (0 : Int), (0 : Int), (0 : Int), (0 : Int), (0 : Int), (0 : Int), (0 : Int), (0 : Int), (0 : Int), (0 : Int), (0 : Int), (0 : Int), (0 : Int), (0 : Int), (0 : Int), (0 : Int)]
def F_l06_makes (k : Nat)  (K0 : Bool → Prop) : Prop := match k with
  | 0 => False
  | k + 1 => (Hold (F_l06_a k (fun r1 r2 => (Hold (F_l06_b k (fun r3 r4 => (Hold (F_l06_a k (fun r5 r6 => (Hold (F_proof_Make k (32 : Int) [(S_api_Leaf.mk r1 r2), (S_api_Leaf.mk r3 r4)] r5 (fun r7 r8 r9 r10 r11 r12 r13 => (Hold (F_l06_a k (fun r14 r15 => (Hold (F_l06_b k (fun r16 r17 => (Hold (F_proof_Make k (32 : Int) [(S_api_Leaf.mk r14 r15)] r16 (fun r18 r19 r20 r21 r22 r23 r24 => (cond (decide (r13 = (0 : Int))) ((cond r7 ((Hold (F_l06_a k (fun r25 r26 => (cond (decide (r8 = r26)) ((cond (decide (((List.length r9 : Nat) : Int) = (1 : Int))) ((0 ≤ (0 : Int) ∧ (0 : Int) < ((List.length r9 : Nat) : Int)) ∧ (Hold (F_l06_b k (fun r27 r28 => (Hold (F_smt_Leaf k (32 : Int) r27 r28 (fun r29 => (cond (decide ((List.getD r9 (Int.toNat (0 : Int)) (List.replicate 32 (0 : Int))) = r29)) ((cond (decide (r24 = (0 : Int))) ((cond (!r18) ((cond r21 ((Hold (F_l06_a k (fun r30 r31 => (cond (decide (r22 = r30)) (K0 (decide (((List.length r20 : Nat) : Int) = (0 : Int)))) (K0 false)))))) (K0 false))) (K0 false))) (K0 false))) (K0 false))))))))) (K0 false))) (K0 false)))))) (K0 false))) (K0 false)))))))))))))))))))))))
mutual
def C_r05_Twice_5 : Nat → (List S_api_Leaf) → Int → Int → (Bool → Prop) → Prop
  | 0, _, _, _, _ => False
  | k + 1, r4, r5, r6, K0 => (cond (decide (r6 < r5)) ((0 ≤ r5 ∧ r5 < ((List.length r4 : Nat) : Int)) ∧ (0 ≤ r6 ∧ r6 < ((List.length r4 : Nat) : Int)) ∧ (cond (decide ((List.getD r4 (Int.toNat r5) (S_api_Leaf.mk (List.replicate 32 (0 : Int)) (List.replicate 32 (0 : Int)))).f0 = (List.getD r4 (Int.toNat r6) (S_api_Leaf.mk (List.replicate 32 (0 : Int)) (List.replicate 32 (0 : Int)))).f0)) (K0 true) ((Hold (C_r05_Twice_5 k r4 r5 (IntKind.i64.wrap (r6 + (1 : Int))) K0))))) ((Hold (C_r05_Twice_2 k r4 (IntKind.i64.wrap (r5 + (1 : Int))) K0))))
def C_r05_Twice_2 : Nat → (List S_api_Leaf) → Int → (Bool → Prop) → Prop
  | 0, _, _, _ => False
  | k + 1, r2, r3, K0 => (cond (decide (r3 < ((List.length r2 : Nat) : Int))) ((Hold (C_r05_Twice_5 k r2 r3 (0 : Int) K0))) (K0 false))
end
def F_r05_Twice (k : Nat) (r1 : (List S_api_Leaf)) (K0 : Bool → Prop) : Prop := match k with
  | 0 => False
  | k + 1 => (Hold (C_r05_Twice_2 k r1 (0 : Int) K0))
def C_r02_Padded_8 : Nat → Int → Int → (List Int) → ((List Int) → Prop) → Prop
  | 0, _, _, _, _ => False
  | k + 1, r4, r5, r6, K0 => (cond (decide ((0 : Int) ≤ r5)) ((0 ≤ (IntKind.i64.wrap ((8 : Int) * r5))) ∧ (room (List.length r6 + List.length [(IntKind.u8.wrap (ishr .u64 r4 (IntKind.i64.wrap ((8 : Int) * r5))))]) 1) ∧ (Hold (C_r02_Padded_8 k r4 (IntKind.i64.wrap (r5 - (1 : Int))) (r6 ++ [(IntKind.u8.wrap (ishr .u64 r4 (IntKind.i64.wrap ((8 : Int) * r5))))]) K0))) (K0 r6))
def C_r02_Padded_4 : Nat → (List Int) → (List Int) → ((List Int) → Prop) → Prop
  | 0, _, _, _ => False
  | k + 1, r2, r3, K0 => ((64 : Int) ≠ 0) ∧ (cond (!decide ((Int.tmod ((List.length r3 : Nat) : Int) (64 : Int)) = (56 : Int))) ((room (List.length r3 + List.length [(0 : Int)]) 1) ∧ (Hold (C_r02_Padded_4 k r2 (r3 ++ [(0 : Int)]) K0))) ((Hold (C_r02_Padded_8 k (IntKind.u64.wrap ((IntKind.u64.wrap ((List.length r2 : Nat) : Int)) * (8 : Int))) (7 : Int) r3 K0))))
def F_r02_Padded (k : Nat) (r1 : (List Int)) (K0 : (List Int) → Prop) : Prop := match k with
  | 0 => False
  | k + 1 => (room (List.length r1) 1) ∧ (room (List.length r1 + List.length [(128 : Int)]) 1) ∧ (Hold (C_r02_Padded_4 k r1 (r1 ++ [(128 : Int)]) K0))
def F_r02_begin (k : Nat)  (K0 : (List Int) → Prop) : Prop := match k with
  | 0 => False
  | k + 1 => K0 [(1779033703 : Int), (3144134277 : Int), (1013904242 : Int), (2773480762 : Int), (1359893119 : Int), (2600822924 : Int), (528734635 : Int), (1541459225 : Int)]
def F_r02_turned (k : Nat) (r1 : Int) (r2 : Int) (K0 : Int → Prop) : Prop := match k with
  | 0 => False
  | k + 1 => (0 ≤ r2) ∧ (0 ≤ (IntKind.i64.wrap ((32 : Int) - r2))) ∧ K0 (ior .u32 (ishr .u32 r1 r2) (ishl .u32 r1 (IntKind.i64.wrap ((32 : Int) - r2))))
def C_r02_block_22 : Nat → Int → (List Int) → (List Int) → (List Int) → ((List Int) → Prop) → Prop
  | 0, _, _, _, _, _ => False
  | k + 1, r27, r28, r29, r30, K0 => (cond (decide (r27 < (8 : Int))) ((0 ≤ r27 ∧ r27 < (8 : Int)) ∧ (0 ≤ r27 ∧ r27 < (8 : Int)) ∧ (0 ≤ r27 ∧ r27 < (8 : Int)) ∧ (Hold (C_r02_block_22 k (IntKind.i64.wrap (r27 + (1 : Int))) (List.set r28 (Int.toNat r27) (IntKind.u32.wrap ((List.getD r28 (Int.toNat r27) (0 : Int)) + (List.getD r30 (Int.toNat r27) (0 : Int))))) r29 r30 K0))) (K0 r28))
def C_r02_block_14 : Nat → Int → (List Int) → (List Int) → (List Int) → (List Int) → ((List Int) → Prop) → Prop
  | 0, _, _, _, _, _, _ => False
  | k + 1, r16, r17, r18, r19, r20, K0 => (cond (decide (r16 < (64 : Int))) ((0 ≤ (4 : Int) ∧ (4 : Int) < (8 : Int)) ∧ (0 ≤ (4 : Int) ∧ (4 : Int) < (8 : Int)) ∧ (0 ≤ (4 : Int) ∧ (4 : Int) < (8 : Int)) ∧ (Hold (F_r02_turned k (List.getD r20 (Int.toNat (4 : Int)) (0 : Int)) (6 : Int) (fun r21 => (Hold (F_r02_turned k (List.getD r20 (Int.toNat (4 : Int)) (0 : Int)) (11 : Int) (fun r22 => (Hold (F_r02_turned k (List.getD r20 (Int.toNat (4 : Int)) (0 : Int)) (25 : Int) (fun r23 => (0 ≤ (0 : Int) ∧ (0 : Int) < (8 : Int)) ∧ (0 ≤ (0 : Int) ∧ (0 : Int) < (8 : Int)) ∧ (0 ≤ (0 : Int) ∧ (0 : Int) < (8 : Int)) ∧ (Hold (F_r02_turned k (List.getD r20 (Int.toNat (0 : Int)) (0 : Int)) (2 : Int) (fun r24 => (Hold (F_r02_turned k (List.getD r20 (Int.toNat (0 : Int)) (0 : Int)) (13 : Int) (fun r25 => (Hold (F_r02_turned k (List.getD r20 (Int.toNat (0 : Int)) (0 : Int)) (22 : Int) (fun r26 => (0 ≤ (7 : Int) ∧ (7 : Int) < (8 : Int)) ∧ (0 ≤ (4 : Int) ∧ (4 : Int) < (8 : Int)) ∧ (0 ≤ (5 : Int) ∧ (5 : Int) < (8 : Int)) ∧ (0 ≤ (4 : Int) ∧ (4 : Int) < (8 : Int)) ∧ (0 ≤ (6 : Int) ∧ (6 : Int) < (8 : Int)) ∧ (0 ≤ r16 ∧ r16 < (64 : Int)) ∧ (0 ≤ r16 ∧ r16 < (64 : Int)) ∧ (0 ≤ (0 : Int) ∧ (0 : Int) < (8 : Int)) ∧ (0 ≤ (1 : Int) ∧ (1 : Int) < (8 : Int)) ∧ (0 ≤ (0 : Int) ∧ (0 : Int) < (8 : Int)) ∧ (0 ≤ (2 : Int) ∧ (2 : Int) < (8 : Int)) ∧ (0 ≤ (1 : Int) ∧ (1 : Int) < (8 : Int)) ∧ (0 ≤ (2 : Int) ∧ (2 : Int) < (8 : Int)) ∧ (0 ≤ (0 : Int) ∧ (0 : Int) < (8 : Int)) ∧ (0 ≤ (1 : Int) ∧ (1 : Int) < (8 : Int)) ∧ (0 ≤ (2 : Int) ∧ (2 : Int) < (8 : Int)) ∧ (0 ≤ (3 : Int) ∧ (3 : Int) < (8 : Int)) ∧ (0 ≤ (4 : Int) ∧ (4 : Int) < (8 : Int)) ∧ (0 ≤ (5 : Int) ∧ (5 : Int) < (8 : Int)) ∧ (0 ≤ (6 : Int) ∧ (6 : Int) < (8 : Int)) ∧ (Hold (C_r02_block_14 k (IntKind.i64.wrap (r16 + (1 : Int))) r17 r18 r19 [(IntKind.u32.wrap ((IntKind.u32.wrap ((IntKind.u32.wrap ((IntKind.u32.wrap ((IntKind.u32.wrap ((List.getD r20 (Int.toNat (7 : Int)) (0 : Int)) + (ixor .u32 (ixor .u32 r21 r22) r23))) + (ixor .u32 (iand .u32 (List.getD r20 (Int.toNat (4 : Int)) (0 : Int)) (List.getD r20 (Int.toNat (5 : Int)) (0 : Int))) (iand .u32 (ixor .u32 (4294967295 : Int) (List.getD r20 (Int.toNat (4 : Int)) (0 : Int))) (List.getD r20 (Int.toNat (6 : Int)) (0 : Int)))))) + (List.getD (List.getD [G_r02_key] 0 (List.replicate 64 (0 : Int))) (Int.toNat r16) (0 : Int)))) + (List.getD r19 (Int.toNat r16) (0 : Int)))) + (IntKind.u32.wrap ((ixor .u32 (ixor .u32 r24 r25) r26) + (ixor .u32 (ixor .u32 (iand .u32 (List.getD r20 (Int.toNat (0 : Int)) (0 : Int)) (List.getD r20 (Int.toNat (1 : Int)) (0 : Int))) (iand .u32 (List.getD r20 (Int.toNat (0 : Int)) (0 : Int)) (List.getD r20 (Int.toNat (2 : Int)) (0 : Int)))) (iand .u32 (List.getD r20 (Int.toNat (1 : Int)) (0 : Int)) (List.getD r20 (Int.toNat (2 : Int)) (0 : Int)))))))), (List.getD r20 (Int.toNat (0 : Int)) (0 : Int)), (List.getD r20 (Int.toNat (1 : Int)) (0 : Int)), (List.getD r20 (Int.toNat (2 : Int)) (0 : Int)), (IntKind.u32.wrap ((List.getD r20 (Int.toNat (3 : Int)) (0 : Int)) + (IntKind.u32.wrap ((IntKind.u32.wrap ((IntKind.u32.wrap ((IntKind.u32.wrap ((List.getD r20 (Int.toNat (7 : Int)) (0 : Int)) + (ixor .u32 (ixor .u32 r21 r22) r23))) + (ixor .u32 (iand .u32 (List.getD r20 (Int.toNat (4 : Int)) (0 : Int)) (List.getD r20 (Int.toNat (5 : Int)) (0 : Int))) (iand .u32 (ixor .u32 (4294967295 : Int) (List.getD r20 (Int.toNat (4 : Int)) (0 : Int))) (List.getD r20 (Int.toNat (6 : Int)) (0 : Int)))))) + (List.getD (List.getD [G_r02_key] 0 (List.replicate 64 (0 : Int))) (Int.toNat r16) (0 : Int)))) + (List.getD r19 (Int.toNat r16) (0 : Int)))))), (List.getD r20 (Int.toNat (4 : Int)) (0 : Int)), (List.getD r20 (Int.toNat (5 : Int)) (0 : Int)), (List.getD r20 (Int.toNat (6 : Int)) (0 : Int))] K0))))))))))))))))))))) ((Hold (C_r02_block_22 k (0 : Int) r17 r18 r20 K0))))
def C_r02_block_7 : Nat → Int → (List Int) → (List Int) → (List Int) → ((List Int) → Prop) → Prop
  | 0, _, _, _, _, _ => False
  | k + 1, r8, r9, r10, r11, K0 => (cond (decide (r8 < (64 : Int))) ((0 ≤ (IntKind.i64.wrap (r8 - (15 : Int))) ∧ (IntKind.i64.wrap (r8 - (15 : Int))) < (64 : Int)) ∧ (0 ≤ (IntKind.i64.wrap (r8 - (15 : Int))) ∧ (IntKind.i64.wrap (r8 - (15 : Int))) < (64 : Int)) ∧ (0 ≤ (IntKind.i64.wrap (r8 - (15 : Int))) ∧ (IntKind.i64.wrap (r8 - (15 : Int))) < (64 : Int)) ∧ (0 ≤ (3 : Int)) ∧ (Hold (F_r02_turned k (List.getD r11 (Int.toNat (IntKind.i64.wrap (r8 - (15 : Int)))) (0 : Int)) (7 : Int) (fun r12 => (Hold (F_r02_turned k (List.getD r11 (Int.toNat (IntKind.i64.wrap (r8 - (15 : Int)))) (0 : Int)) (18 : Int) (fun r13 => (0 ≤ (IntKind.i64.wrap (r8 - (2 : Int))) ∧ (IntKind.i64.wrap (r8 - (2 : Int))) < (64 : Int)) ∧ (0 ≤ (IntKind.i64.wrap (r8 - (2 : Int))) ∧ (IntKind.i64.wrap (r8 - (2 : Int))) < (64 : Int)) ∧ (0 ≤ (IntKind.i64.wrap (r8 - (2 : Int))) ∧ (IntKind.i64.wrap (r8 - (2 : Int))) < (64 : Int)) ∧ (0 ≤ (10 : Int)) ∧ (Hold (F_r02_turned k (List.getD r11 (Int.toNat (IntKind.i64.wrap (r8 - (2 : Int)))) (0 : Int)) (17 : Int) (fun r14 => (Hold (F_r02_turned k (List.getD r11 (Int.toNat (IntKind.i64.wrap (r8 - (2 : Int)))) (0 : Int)) (19 : Int) (fun r15 => (0 ≤ (IntKind.i64.wrap (r8 - (7 : Int))) ∧ (IntKind.i64.wrap (r8 - (7 : Int))) < (64 : Int)) ∧ (0 ≤ (IntKind.i64.wrap (r8 - (16 : Int))) ∧ (IntKind.i64.wrap (r8 - (16 : Int))) < (64 : Int)) ∧ (0 ≤ r8 ∧ r8 < (64 : Int)) ∧ (Hold (C_r02_block_7 k (IntKind.i64.wrap (r8 + (1 : Int))) r9 r10 (List.set r11 (Int.toNat r8) (IntKind.u32.wrap ((IntKind.u32.wrap ((IntKind.u32.wrap ((ixor .u32 (ixor .u32 r14 r15) (ishr .u32 (List.getD r11 (Int.toNat (IntKind.i64.wrap (r8 - (2 : Int)))) (0 : Int)) (10 : Int))) + (List.getD r11 (Int.toNat (IntKind.i64.wrap (r8 - (7 : Int)))) (0 : Int)))) + (ixor .u32 (ixor .u32 r12 r13) (ishr .u32 (List.getD r11 (Int.toNat (IntKind.i64.wrap (r8 - (15 : Int)))) (0 : Int)) (3 : Int))))) + (List.getD r11 (Int.toNat (IntKind.i64.wrap (r8 - (16 : Int)))) (0 : Int))))) K0))))))))))))))) ((Hold (C_r02_block_14 k (0 : Int) r9 r10 r11 r9 K0))))
def C_r02_block_3 : Nat → (List Int) → Int → (List Int) → (List Int) → (List Int) → ((List Int) → Prop) → Prop
  | 0, _, _, _, _, _, _ => False
  | k + 1, r3, r4, r5, r6, r7, K0 => (cond (decide (r4 < (16 : Int))) ((0 ≤ (IntKind.i64.wrap ((4 : Int) * r4)) ∧ (IntKind.i64.wrap ((4 : Int) * r4)) < ((List.length r3 : Nat) : Int)) ∧ (0 ≤ (24 : Int)) ∧ (0 ≤ (IntKind.i64.wrap ((IntKind.i64.wrap ((4 : Int) * r4)) + (1 : Int))) ∧ (IntKind.i64.wrap ((IntKind.i64.wrap ((4 : Int) * r4)) + (1 : Int))) < ((List.length r3 : Nat) : Int)) ∧ (0 ≤ (16 : Int)) ∧ (0 ≤ (IntKind.i64.wrap ((IntKind.i64.wrap ((4 : Int) * r4)) + (2 : Int))) ∧ (IntKind.i64.wrap ((IntKind.i64.wrap ((4 : Int) * r4)) + (2 : Int))) < ((List.length r3 : Nat) : Int)) ∧ (0 ≤ (8 : Int)) ∧ (0 ≤ (IntKind.i64.wrap ((IntKind.i64.wrap ((4 : Int) * r4)) + (3 : Int))) ∧ (IntKind.i64.wrap ((IntKind.i64.wrap ((4 : Int) * r4)) + (3 : Int))) < ((List.length r3 : Nat) : Int)) ∧ (0 ≤ r4 ∧ r4 < (64 : Int)) ∧ (Hold (C_r02_block_3 k r3 (IntKind.i64.wrap (r4 + (1 : Int))) r5 r6 (List.set r7 (Int.toNat r4) (IntKind.u32.wrap ((IntKind.u32.wrap ((IntKind.u32.wrap ((ishl .u32 (IntKind.u32.wrap (List.getD r3 (Int.toNat (IntKind.i64.wrap ((4 : Int) * r4))) (0 : Int))) (24 : Int)) + (ishl .u32 (IntKind.u32.wrap (List.getD r3 (Int.toNat (IntKind.i64.wrap ((IntKind.i64.wrap ((4 : Int) * r4)) + (1 : Int)))) (0 : Int))) (16 : Int)))) + (ishl .u32 (IntKind.u32.wrap (List.getD r3 (Int.toNat (IntKind.i64.wrap ((IntKind.i64.wrap ((4 : Int) * r4)) + (2 : Int)))) (0 : Int))) (8 : Int)))) + (IntKind.u32.wrap (List.getD r3 (Int.toNat (IntKind.i64.wrap ((IntKind.i64.wrap ((4 : Int) * r4)) + (3 : Int)))) (0 : Int)))))) K0))) ((Hold (C_r02_block_7 k (16 : Int) r5 r6 r7 K0))))
def F_r02_block (k : Nat) (r1 : (List Int)) (r2 : (List Int)) (K0 : (List Int) → Prop) : Prop := match k with
  | 0 => False
  | k + 1 => (Hold (C_r02_block_3 k r2 (0 : Int) r1 (List.replicate 8 (0 : Int)) (List.replicate 64 (0 : Int)) K0))
def C_r02_Sum_9 : Nat → Int → (List Int) → (List Int) → (List Int) → ((List Int) → Prop) → Prop
  | 0, _, _, _, _, _ => False
  | k + 1, r9, r10, r11, r12, K0 => (cond (decide (r9 < (32 : Int))) (((4 : Int) ≠ 0) ∧ (0 ≤ (IntKind.i64.wrap (Int.tdiv r9 (4 : Int))) ∧ (IntKind.i64.wrap (Int.tdiv r9 (4 : Int))) < (8 : Int)) ∧ ((4 : Int) ≠ 0) ∧ (0 ≤ (IntKind.i64.wrap ((24 : Int) - (IntKind.i64.wrap ((8 : Int) * (Int.tmod r9 (4 : Int))))))) ∧ (0 ≤ r9 ∧ r9 < (32 : Int)) ∧ (Hold (C_r02_Sum_9 k (IntKind.i64.wrap (r9 + (1 : Int))) r10 r11 (List.set r12 (Int.toNat r9) (IntKind.u8.wrap (ishr .u32 (List.getD r11 (Int.toNat (IntKind.i64.wrap (Int.tdiv r9 (4 : Int)))) (0 : Int)) (IntKind.i64.wrap ((24 : Int) - (IntKind.i64.wrap ((8 : Int) * (Int.tmod r9 (4 : Int))))))))) K0))) (K0 r12))
def C_r02_Sum_4 : Nat → Int → (List Int) → (List Int) → (List Int) → ((List Int) → Prop) → Prop
  | 0, _, _, _, _, _ => False
  | k + 1, r4, r5, r6, r7, K0 => (cond (decide (r4 < ((List.length r6 : Nat) : Int))) ((0 ≤ r4 ∧ r4 ≤ (IntKind.i64.wrap (r4 + (64 : Int))) ∧ (IntKind.i64.wrap (r4 + (64 : Int))) ≤ ((List.length r6 : Nat) : Int)) ∧ (Hold (F_r02_block k r7 (cut r6 (Int.toNat r4) (Int.toNat ((IntKind.i64.wrap (r4 + (64 : Int))) - r4))) (fun r8 => (Hold (C_r02_Sum_4 k (IntKind.i64.wrap (r4 + (64 : Int))) r5 r6 r8 K0)))))) ((Hold (C_r02_Sum_9 k (0 : Int) r5 r7 (List.replicate 32 (0 : Int)) K0))))
def F_r02_Sum (k : Nat) (r1 : (List Int)) (K0 : (List Int) → Prop) : Prop := match k with
  | 0 => False
  | k + 1 => (Hold (F_r02_Padded k r1 (fun r2 => (Hold (F_r02_begin k (fun r3 => (Hold (C_r02_Sum_4 k (0 : Int) (List.replicate 32 (0 : Int)) r2 r3 K0))))))))
def C_r05_Short_6 : Nat → Int → Int → (List Int) → (List Int) → (List Int) → ((List Int) → Int → Prop) → Prop
  | 0, _, _, _, _, _, _ => False
  | k + 1, r5, r6, r7, r8, r9, K0 => (cond (decide (r6 < r5)) ((0 ≤ r6 ∧ r6 < (32 : Int)) ∧ (0 ≤ r6 ∧ r6 < (32 : Int)) ∧ (Hold (C_r05_Short_6 k r5 (IntKind.i64.wrap (r6 + (1 : Int))) r7 (List.set r8 (Int.toNat r6) (List.getD r9 (Int.toNat r6) (0 : Int))) r9 K0))) (K0 r8 (0 : Int)))
def F_r05_Short (k : Nat) (r1 : Int) (r2 : (List Int)) (K0 : (List Int) → Int → Prop) : Prop := match k with
  | 0 => False
  | k + 1 => (Hold (F_r05_Width k r1 (fun r3 => (cond (!r3) (K0 (List.replicate 32 (0 : Int)) (1 : Int)) ((Hold (F_r02_Sum k r2 (fun r4 => (Hold (C_r05_Short_6 k r1 (0 : Int) (List.replicate 32 (0 : Int)) (List.replicate 32 (0 : Int)) r4 K0))))))))))
def F_r05_Empty (k : Nat) (r1 : Int) (K0 : (List Int) → Prop) : Prop := match k with
  | 0 => False
  | k + 1 => (Hold (F_r05_Short k r1 [(2 : Int)] (fun r2 r3 => K0 r2)))
def F_r05_LeafBytes (k : Nat) (r1 : (List Int)) (r2 : (List Int)) (K0 : (List Int) → Prop) : Prop := match k with
  | 0 => False
  | k + 1 => (0 ≤ (0 : Int) ∧ (0 : Int) ≤ (32 : Int) ∧ (32 : Int) ≤ (32 : Int)) ∧ (room (List.length [(0 : Int)] + List.length (cut r1 (Int.toNat (0 : Int)) (Int.toNat ((32 : Int) - (0 : Int))))) 1) ∧ (0 ≤ (0 : Int) ∧ (0 : Int) ≤ (32 : Int) ∧ (32 : Int) ≤ (32 : Int)) ∧ (room (List.length ([(0 : Int)] ++ (cut r1 (Int.toNat (0 : Int)) (Int.toNat ((32 : Int) - (0 : Int))))) + List.length (cut r2 (Int.toNat (0 : Int)) (Int.toNat ((32 : Int) - (0 : Int))))) 1) ∧ K0 (([(0 : Int)] ++ (cut r1 (Int.toNat (0 : Int)) (Int.toNat ((32 : Int) - (0 : Int))))) ++ (cut r2 (Int.toNat (0 : Int)) (Int.toNat ((32 : Int) - (0 : Int)))))
def F_r05_Leaf (k : Nat) (r1 : Int) (r2 : (List Int)) (r3 : (List Int)) (K0 : (List Int) → Prop) : Prop := match k with
  | 0 => False
  | k + 1 => (Hold (F_r05_LeafBytes k r2 r3 (fun r4 => (Hold (F_r05_Short k r1 r4 (fun r5 r6 => K0 r5))))))
def C_r04_weight_3 : Nat → Int → Int → Int → (Int → Prop) → Prop
  | 0, _, _, _, _ => False
  | k + 1, r2, r3, r4, K0 => ((8 : Int) ≠ 0) ∧ (cond (decide (r4 < (Int.tmod r2 (8 : Int)))) (((2 : Int) ≠ 0) ∧ (Hold (C_r04_weight_3 k r2 (IntKind.i64.wrap (Int.tdiv r3 (2 : Int))) (IntKind.i64.wrap (r4 + (1 : Int))) K0))) (K0 r3))
def F_r04_weight (k : Nat) (r1 : Int) (K0 : Int → Prop) : Prop := match k with
  | 0 => False
  | k + 1 => (Hold (C_r04_weight_3 k r1 (128 : Int) (0 : Int) K0))
def F_r04_At (k : Nat) (r1 : (List Int)) (r2 : Int) (K0 : Int → Prop) : Prop := match k with
  | 0 => False
  | k + 1 => ((8 : Int) ≠ 0) ∧ (0 ≤ (IntKind.i64.wrap (Int.tdiv r2 (8 : Int))) ∧ (IntKind.i64.wrap (Int.tdiv r2 (8 : Int))) < (32 : Int)) ∧ (Hold (F_r04_weight k r2 (fun r3 => (r3 ≠ 0) ∧ ((2 : Int) ≠ 0) ∧ K0 (Int.tmod (IntKind.i64.wrap (Int.tdiv (IntKind.i64.wrap (List.getD r1 (Int.toNat (IntKind.i64.wrap (Int.tdiv r2 (8 : Int)))) (0 : Int))) r3)) (2 : Int)))))
mutual
def C_r05_Half_4 : Nat → (List S_api_Leaf) → Int → Int → Int → (List S_api_Leaf) → ((List S_api_Leaf) → Prop) → Prop
  | 0, _, _, _, _, _, _ => False
  | k + 1, r10, r11, r12, r13, r14, K0 => (Hold (C_r05_Half_3 k r10 r11 r12 (IntKind.i64.wrap (r13 + (1 : Int))) r14 K0))
def C_r05_Half_3 : Nat → (List S_api_Leaf) → Int → Int → Int → (List S_api_Leaf) → ((List S_api_Leaf) → Prop) → Prop
  | 0, _, _, _, _, _, _ => False
  | k + 1, r4, r5, r6, r7, r8, K0 => (cond (decide (r7 < ((List.length r4 : Nat) : Int))) ((0 ≤ r7 ∧ r7 < ((List.length r4 : Nat) : Int)) ∧ (Hold (F_r04_At k (List.getD r4 (Int.toNat r7) (S_api_Leaf.mk (List.replicate 32 (0 : Int)) (List.replicate 32 (0 : Int)))).f0 r5 (fun r9 => (cond (decide (r9 = r6)) ((0 ≤ r7 ∧ r7 < ((List.length r4 : Nat) : Int)) ∧ (room (List.length r8 + List.length [(S_api_Leaf.mk (List.getD r4 (Int.toNat r7) (S_api_Leaf.mk (List.replicate 32 (0 : Int)) (List.replicate 32 (0 : Int)))).f0 (List.getD r4 (Int.toNat r7) (S_api_Leaf.mk (List.replicate 32 (0 : Int)) (List.replicate 32 (0 : Int)))).f1)]) 64) ∧ (Hold (C_r05_Half_4 k r4 r5 r6 r7 (r8 ++ [(S_api_Leaf.mk (List.getD r4 (Int.toNat r7) (S_api_Leaf.mk (List.replicate 32 (0 : Int)) (List.replicate 32 (0 : Int)))).f0 (List.getD r4 (Int.toNat r7) (S_api_Leaf.mk (List.replicate 32 (0 : Int)) (List.replicate 32 (0 : Int)))).f1)]) K0))) ((Hold (C_r05_Half_4 k r4 r5 r6 r7 r8 K0)))))))) (K0 r8))
end
def F_r05_Half (k : Nat) (r1 : (List S_api_Leaf)) (r2 : Int) (r3 : Int) (K0 : (List S_api_Leaf) → Prop) : Prop := match k with
  | 0 => False
  | k + 1 => (Hold (C_r05_Half_3 k r1 r2 r3 (0 : Int) [] K0))
def F_r05_NodeBytes (k : Nat) (r1 : (List Int)) (r2 : (List Int)) (K0 : (List Int) → Prop) : Prop := match k with
  | 0 => False
  | k + 1 => (0 ≤ (0 : Int) ∧ (0 : Int) ≤ (32 : Int) ∧ (32 : Int) ≤ (32 : Int)) ∧ (room (List.length [(1 : Int)] + List.length (cut r1 (Int.toNat (0 : Int)) (Int.toNat ((32 : Int) - (0 : Int))))) 1) ∧ (0 ≤ (0 : Int) ∧ (0 : Int) ≤ (32 : Int) ∧ (32 : Int) ≤ (32 : Int)) ∧ (room (List.length ([(1 : Int)] ++ (cut r1 (Int.toNat (0 : Int)) (Int.toNat ((32 : Int) - (0 : Int))))) + List.length (cut r2 (Int.toNat (0 : Int)) (Int.toNat ((32 : Int) - (0 : Int))))) 1) ∧ K0 (([(1 : Int)] ++ (cut r1 (Int.toNat (0 : Int)) (Int.toNat ((32 : Int) - (0 : Int))))) ++ (cut r2 (Int.toNat (0 : Int)) (Int.toNat ((32 : Int) - (0 : Int)))))
def F_r05_Node (k : Nat) (r1 : Int) (r2 : (List Int)) (r3 : (List Int)) (K0 : (List Int) → Prop) : Prop := match k with
  | 0 => False
  | k + 1 => (Hold (F_r05_NodeBytes k r2 r3 (fun r4 => (Hold (F_r05_Short k r1 r4 (fun r5 r6 => K0 r5))))))
def F_r05_Digest_s1 : Nat → Int → (List S_api_Leaf) → Int → ((List Int) → Prop) → Prop
  | 0, _, _, _, _ => False
  | k + 1, r1, r2, r3, K0 => (cond (decide (((List.length r2 : Nat) : Int) = (0 : Int))) ((Hold (F_r05_Empty k r1 (fun r4 => K0 r4)))) ((cond (decide (((List.length r2 : Nat) : Int) = (1 : Int))) ((0 ≤ (0 : Int) ∧ (0 : Int) < ((List.length r2 : Nat) : Int)) ∧ (Hold (F_r05_Leaf k r1 (List.getD r2 (Int.toNat (0 : Int)) (S_api_Leaf.mk (List.replicate 32 (0 : Int)) (List.replicate 32 (0 : Int)))).f0 (List.getD r2 (Int.toNat (0 : Int)) (S_api_Leaf.mk (List.replicate 32 (0 : Int)) (List.replicate 32 (0 : Int)))).f1 (fun r5 => K0 r5)))) ((Hold (F_r05_Half k r2 r3 (0 : Int) (fun r6 => (Hold (F_r05_Digest_s1 k r1 r6 (IntKind.i64.wrap (r3 + (1 : Int))) (fun r7 => (Hold (F_r05_Half k r2 r3 (1 : Int) (fun r8 => (Hold (F_r05_Digest_s1 k r1 r8 (IntKind.i64.wrap (r3 + (1 : Int))) (fun r9 => (Hold (F_r05_Node k r1 r7 r9 (fun r10 => K0 r10)))))))))))))))))))
def F_r05_Root (k : Nat) (r1 : Int) (r2 : (List S_api_Leaf)) (K0 : (List Int) → Int → Prop) : Prop := match k with
  | 0 => False
  | k + 1 => (Hold (F_r05_Width k r1 (fun r3 => (cond (!r3) (K0 [(0 : Int), (0 : Int), (0 : Int), (0 : Int), (0 : Int), (0 : Int), (0 : Int), (0 : Int), (0 : Int), (0 : Int), (0 : Int), (0 : Int), (0 : Int), (0 : Int), (0 : Int), (0 : Int), (0 : Int), (0 : Int), (0 : Int), (0 : Int), (0 : Int), (0 : Int), (0 : Int), (0 : Int), (0 : Int), (0 : Int), (0 : Int), (0 : Int), (0 : Int), (0 : Int), (0 : Int), (0 : Int)] (1 : Int)) ((cond (decide ((4096 : Int) < ((List.length r2 : Nat) : Int))) (K0 [(0 : Int), (0 : Int), (0 : Int), (0 : Int), (0 : Int), (0 : Int), (0 : Int), (0 : Int), (0 : Int), (0 : Int), (0 : Int), (0 : Int), (0 : Int), (0 : Int), (0 : Int), (0 : Int), (0 : Int), (0 : Int), (0 : Int), (0 : Int), (0 : Int), (0 : Int), (0 : Int), (0 : Int), (0 : Int), (0 : Int), (0 : Int), (0 : Int), (0 : Int), (0 : Int), (0 : Int), (0 : Int)] (2 : Int)) ((Hold (F_r05_Twice k r2 (fun r4 => (cond r4 (K0 [(0 : Int), (0 : Int), (0 : Int), (0 : Int), (0 : Int), (0 : Int), (0 : Int), (0 : Int), (0 : Int), (0 : Int), (0 : Int), (0 : Int), (0 : Int), (0 : Int), (0 : Int), (0 : Int), (0 : Int), (0 : Int), (0 : Int), (0 : Int), (0 : Int), (0 : Int), (0 : Int), (0 : Int), (0 : Int), (0 : Int), (0 : Int), (0 : Int), (0 : Int), (0 : Int), (0 : Int), (0 : Int)] (30 : Int)) ((Hold (F_r05_Digest_s1 k r1 r2 (0 : Int) (fun r5 => K0 r5 (0 : Int))))))))))))))))
def C_r05_Get_2 : Nat → (List S_api_Leaf) → Int → (List Int) → (List Int) → ((List Int) → Bool → Prop) → Prop
  | 0, _, _, _, _, _ => False
  | k + 1, r3, r4, r5, r6, K0 => (cond (decide (r4 < ((List.length r3 : Nat) : Int))) ((0 ≤ r4 ∧ r4 < ((List.length r3 : Nat) : Int)) ∧ (cond (decide ((List.getD r3 (Int.toNat r4) (S_api_Leaf.mk (List.replicate 32 (0 : Int)) (List.replicate 32 (0 : Int)))).f0 = r5)) ((0 ≤ r4 ∧ r4 < ((List.length r3 : Nat) : Int)) ∧ K0 (List.getD r3 (Int.toNat r4) (S_api_Leaf.mk (List.replicate 32 (0 : Int)) (List.replicate 32 (0 : Int)))).f1 true) ((Hold (C_r05_Get_2 k r3 (IntKind.i64.wrap (r4 + (1 : Int))) r5 r6 K0))))) (K0 [(0 : Int), (0 : Int), (0 : Int), (0 : Int), (0 : Int), (0 : Int), (0 : Int), (0 : Int), (0 : Int), (0 : Int), (0 : Int), (0 : Int), (0 : Int), (0 : Int), (0 : Int), (0 : Int), (0 : Int), (0 : Int), (0 : Int), (0 : Int), (0 : Int), (0 : Int), (0 : Int), (0 : Int), (0 : Int), (0 : Int), (0 : Int), (0 : Int), (0 : Int), (0 : Int), (0 : Int), (0 : Int)] false))
def F_r05_Get (k : Nat) (r1 : (List S_api_Leaf)) (r2 : (List Int)) (K0 : (List Int) → Bool → Prop) : Prop := match k with
  | 0 => False
  | k + 1 => (Hold (C_r05_Get_2 k r1 (0 : Int) r2 (List.replicate 32 (0 : Int)) K0))
def C_r06_Make_19 : Nat → Bool → (List Int) → Bool → (List Int) → (List Int) → Bool → (List Int) → Bool → (List Int) → (List Int) → (List (List Int)) → (List (List Int)) → (Bool → (List Int) → (List (List Int)) → Bool → (List Int) → (List Int) → Int → Prop) → Prop
  | 0, _, _, _, _, _, _, _, _, _, _, _, _, _ => False
  | k + 1, r198, r199, r200, r201, r202, r203, r204, r205, r206, r207, r208, r209, K0 => K0 r203 r204 r209 r205 r206 r207 (0 : Int)
def C_r06_Make_18 : Nat → Bool → (List Int) → Bool → (List Int) → (List Int) → Bool → (List Int) → Bool → (List Int) → (List Int) → (List S_api_Leaf) → (List (List Int)) → (List (List Int)) → (Bool → (List Int) → (List (List Int)) → Bool → (List Int) → (List Int) → Int → Prop) → Prop
  | 0, _, _, _, _, _, _, _, _, _, _, _, _, _, _ => False
  | k + 1, r185, r186, r187, r188, r189, r190, r191, r192, r193, r194, r195, r196, r197, K0 => (0 ≤ (0 : Int) ∧ (0 : Int) < ((List.length r195 : Nat) : Int)) ∧ (Hold (C_r06_Make_19 k r185 r186 r187 r188 r189 r190 r191 r192 r193 (List.getD r195 (Int.toNat (0 : Int)) (S_api_Leaf.mk (List.replicate 32 (0 : Int)) (List.replicate 32 (0 : Int)))).f1 r196 r197 K0))
def C_r06_Make_17 : Nat → Bool → (List Int) → Bool → (List Int) → (List Int) → Bool → (List Int) → Bool → (List Int) → (List Int) → (List S_api_Leaf) → (List (List Int)) → (List (List Int)) → (Bool → (List Int) → (List (List Int)) → Bool → (List Int) → (List Int) → Int → Prop) → Prop
  | 0, _, _, _, _, _, _, _, _, _, _, _, _, _, _ => False
  | k + 1, r172, r173, r174, r175, r176, r177, r178, r179, r180, r181, r182, r183, r184, K0 => (0 ≤ (0 : Int) ∧ (0 : Int) < ((List.length r182 : Nat) : Int)) ∧ (Hold (C_r06_Make_18 k r172 r173 r174 r175 r176 r177 r178 r179 (List.getD r182 (Int.toNat (0 : Int)) (S_api_Leaf.mk (List.replicate 32 (0 : Int)) (List.replicate 32 (0 : Int)))).f0 r181 r182 r183 r184 K0))
def C_r06_Make_15 : Nat → Bool → Bool → (List Int) → Bool → (List Int) → (List Int) → Bool → (List Int) → Bool → (List Int) → (List Int) → (List S_api_Leaf) → (List (List Int)) → (List (List Int)) → (Bool → (List Int) → (List (List Int)) → Bool → (List Int) → (List Int) → Int → Prop) → Prop
  | 0, _, _, _, _, _, _, _, _, _, _, _, _, _, _, _ => False
  | k + 1, r158, r159, r160, r161, r162, r163, r164, r165, r166, r167, r168, r169, r170, r171, K0 => (cond (!r158) ((cond (decide (((List.length r169 : Nat) : Int) = (1 : Int))) ((Hold (C_r06_Make_17 k r159 r160 r161 r162 r163 r164 r165 true r167 r168 r169 r170 r171 K0))) ((Hold (C_r06_Make_19 k r159 r160 r161 r162 r163 r164 r165 r166 r167 r168 r170 r171 K0))))) ((Hold (C_r06_Make_19 k r159 r160 r161 r162 r163 r164 r165 r166 r167 r168 r170 r171 K0))))
mutual
def C_r06_Make_13_1 : Nat → Int → Bool → Int → Int → (List Int) → Bool → (List Int) → Bool → (List Int) → (List Int) → Bool → (List Int) → Bool → (List Int) → (List Int) → (List S_api_Leaf) → (List S_api_Leaf) → (List (List Int)) → (List (List Int)) → (Bool → (List Int) → (List (List Int)) → Bool → (List Int) → (List Int) → Int → Prop) → Prop
  | 0, _, _, _, _, _, _, _, _, _, _, _, _, _, _, _, _, _, _, _, _ => False
  | k + 1, r137, r138, r139, r140, r141, r142, r143, r144, r145, r146, r147, r148, r149, r150, r151, r152, r153, r154, r155, K0 => (Hold (F_r05_Digest_s1 k r137 r153 (IntKind.i64.wrap (r139 + (1 : Int))) (fun r156 => (room (List.length r155 + List.length [r156]) 32) ∧ (Hold (F_r05_Half k r152 r139 r140 (fun r157 => (Hold (C_r06_Make_9_1 k r137 r138 (IntKind.i64.wrap (r139 + (1 : Int))) r141 r142 r143 r144 r145 r146 r147 r148 r149 r150 r151 r157 r154 (r155 ++ [r156]) K0))))))))
def C_r06_Make_12_1 : Nat → Int → Bool → Int → Int → (List Int) → Bool → (List Int) → Bool → (List Int) → (List Int) → Bool → (List Int) → Bool → (List Int) → (List Int) → (List S_api_Leaf) → (List (List Int)) → (List (List Int)) → (Bool → (List Int) → (List (List Int)) → Bool → (List Int) → (List Int) → Int → Prop) → Prop
  | 0, _, _, _, _, _, _, _, _, _, _, _, _, _, _, _, _, _, _, _ => False
  | k + 1, r118, r119, r120, r121, r122, r123, r124, r125, r126, r127, r128, r129, r130, r131, r132, r133, r134, r135, K0 => (Hold (F_r05_Half k r133 r120 (IntKind.i64.wrap ((1 : Int) - r121)) (fun r136 => (Hold (C_r06_Make_13_1 k r118 r119 r120 r121 r122 r123 r124 r125 r126 r127 r128 r129 r130 r131 r132 r133 r136 r134 r135 K0)))))
def C_r06_Make_11_1 : Nat → Int → Bool → Int → (List Int) → Bool → (List Int) → Bool → (List Int) → (List Int) → Bool → (List Int) → Bool → (List Int) → (List Int) → (List S_api_Leaf) → (List (List Int)) → (List (List Int)) → (Bool → (List Int) → (List (List Int)) → Bool → (List Int) → (List Int) → Int → Prop) → Prop
  | 0, _, _, _, _, _, _, _, _, _, _, _, _, _, _, _, _, _, _ => False
  | k + 1, r100, r101, r102, r103, r104, r105, r106, r107, r108, r109, r110, r111, r112, r113, r114, r115, r116, K0 => (Hold (F_r04_At k r103 r102 (fun r117 => (Hold (C_r06_Make_12_1 k r100 r101 r102 r117 r103 r104 r105 r106 r107 r108 r109 r110 r111 r112 r113 r114 r115 r116 K0)))))
def C_r06_Make_9_1 : Nat → Int → Bool → Int → (List Int) → Bool → (List Int) → Bool → (List Int) → (List Int) → Bool → (List Int) → Bool → (List Int) → (List Int) → (List S_api_Leaf) → (List (List Int)) → (List (List Int)) → (Bool → (List Int) → (List (List Int)) → Bool → (List Int) → (List Int) → Int → Prop) → Prop
  | 0, _, _, _, _, _, _, _, _, _, _, _, _, _, _, _, _, _, _ => False
  | k + 1, r83, r84, r85, r86, r87, r88, r89, r90, r91, r92, r93, r94, r95, r96, r97, r98, r99, K0 => (cond (decide ((2 : Int) ≤ ((List.length r97 : Nat) : Int))) ((Hold (C_r06_Make_11_1 k r83 r84 r85 r86 r87 r88 r89 r90 r91 r92 r93 r94 r95 r96 r97 r98 r99 K0))) ((Hold (C_r06_Make_15 k r84 r87 r88 r89 r90 r91 r92 r93 r94 r95 r96 r97 r98 r99 K0))))
end
def C_r06_Make_13 : Nat → Int → Bool → (List S_api_Leaf) → Int → Int → (List Int) → Bool → (List Int) → Bool → (List Int) → (List Int) → Bool → (List Int) → Bool → (List Int) → (List Int) → (List S_api_Leaf) → (List (List Int)) → (List (List Int)) → (Bool → (List Int) → (List (List Int)) → Bool → (List Int) → (List Int) → Int → Prop) → Prop
  | 0, _, _, _, _, _, _, _, _, _, _, _, _, _, _, _, _, _, _, _, _ => False
  | k + 1, r62, r63, r64, r65, r66, r67, r68, r69, r70, r71, r72, r73, r74, r75, r76, r77, r78, r79, r80, K0 => (Hold (F_r05_Digest_s1 k r62 r78 (IntKind.i64.wrap (r65 + (1 : Int))) (fun r81 => (room (List.length r80 + List.length [r81]) 32) ∧ (Hold (F_r05_Half k r64 r65 r66 (fun r82 => (Hold (C_r06_Make_9_1 k r62 r63 (IntKind.i64.wrap (r65 + (1 : Int))) r67 r68 r69 r70 r71 r72 r73 r74 r75 r76 r77 r82 r79 (r80 ++ [r81]) K0))))))))
def C_r06_Make_12 : Nat → Int → Bool → (List S_api_Leaf) → Int → Int → (List Int) → Bool → (List Int) → Bool → (List Int) → (List Int) → Bool → (List Int) → Bool → (List Int) → (List Int) → (List (List Int)) → (List (List Int)) → (Bool → (List Int) → (List (List Int)) → Bool → (List Int) → (List Int) → Int → Prop) → Prop
  | 0, _, _, _, _, _, _, _, _, _, _, _, _, _, _, _, _, _, _, _ => False
  | k + 1, r43, r44, r45, r46, r47, r48, r49, r50, r51, r52, r53, r54, r55, r56, r57, r58, r59, r60, K0 => (Hold (F_r05_Half k r45 r46 (IntKind.i64.wrap ((1 : Int) - r47)) (fun r61 => (Hold (C_r06_Make_13 k r43 r44 r45 r46 r47 r48 r49 r50 r51 r52 r53 r54 r55 r56 r57 r58 r61 r59 r60 K0)))))
def C_r06_Make_11 : Nat → Int → Bool → (List S_api_Leaf) → Int → (List Int) → Bool → (List Int) → Bool → (List Int) → (List Int) → Bool → (List Int) → Bool → (List Int) → (List Int) → (List (List Int)) → (List (List Int)) → (Bool → (List Int) → (List (List Int)) → Bool → (List Int) → (List Int) → Int → Prop) → Prop
  | 0, _, _, _, _, _, _, _, _, _, _, _, _, _, _, _, _, _, _ => False
  | k + 1, r25, r26, r27, r28, r29, r30, r31, r32, r33, r34, r35, r36, r37, r38, r39, r40, r41, K0 => (Hold (F_r04_At k r29 r28 (fun r42 => (Hold (C_r06_Make_12 k r25 r26 r27 r28 r42 r29 r30 r31 r32 r33 r34 r35 r36 r37 r38 r39 r40 r41 K0)))))
def C_r06_Make_18_1 : Nat → (List S_api_Leaf) → Bool → (List Int) → Bool → (List Int) → (List Int) → Bool → (List Int) → Bool → (List Int) → (List Int) → (List (List Int)) → (List (List Int)) → (Bool → (List Int) → (List (List Int)) → Bool → (List Int) → (List Int) → Int → Prop) → Prop
  | 0, _, _, _, _, _, _, _, _, _, _, _, _, _, _ => False
  | k + 1, r237, r238, r239, r240, r241, r242, r243, r244, r245, r246, r247, r248, r249, K0 => (0 ≤ (0 : Int) ∧ (0 : Int) < ((List.length r237 : Nat) : Int)) ∧ (Hold (C_r06_Make_19 k r238 r239 r240 r241 r242 r243 r244 r245 r246 (List.getD r237 (Int.toNat (0 : Int)) (S_api_Leaf.mk (List.replicate 32 (0 : Int)) (List.replicate 32 (0 : Int)))).f1 r248 r249 K0))
def C_r06_Make_17_1 : Nat → (List S_api_Leaf) → Bool → (List Int) → Bool → (List Int) → (List Int) → Bool → (List Int) → Bool → (List Int) → (List Int) → (List (List Int)) → (List (List Int)) → (Bool → (List Int) → (List (List Int)) → Bool → (List Int) → (List Int) → Int → Prop) → Prop
  | 0, _, _, _, _, _, _, _, _, _, _, _, _, _, _ => False
  | k + 1, r224, r225, r226, r227, r228, r229, r230, r231, r232, r233, r234, r235, r236, K0 => (0 ≤ (0 : Int) ∧ (0 : Int) < ((List.length r224 : Nat) : Int)) ∧ (Hold (C_r06_Make_18_1 k r224 r225 r226 r227 r228 r229 r230 r231 r232 (List.getD r224 (Int.toNat (0 : Int)) (S_api_Leaf.mk (List.replicate 32 (0 : Int)) (List.replicate 32 (0 : Int)))).f0 r234 r235 r236 K0))
def C_r06_Make_15_1 : Nat → Bool → (List S_api_Leaf) → Bool → (List Int) → Bool → (List Int) → (List Int) → Bool → (List Int) → Bool → (List Int) → (List Int) → (List (List Int)) → (List (List Int)) → (Bool → (List Int) → (List (List Int)) → Bool → (List Int) → (List Int) → Int → Prop) → Prop
  | 0, _, _, _, _, _, _, _, _, _, _, _, _, _, _, _ => False
  | k + 1, r210, r211, r212, r213, r214, r215, r216, r217, r218, r219, r220, r221, r222, r223, K0 => (cond (!r210) ((cond (decide (((List.length r211 : Nat) : Int) = (1 : Int))) ((Hold (C_r06_Make_17_1 k r211 r212 r213 r214 r215 r216 r217 r218 true r220 r221 r222 r223 K0))) ((Hold (C_r06_Make_19 k r212 r213 r214 r215 r216 r217 r218 r219 r220 r221 r222 r223 K0))))) ((Hold (C_r06_Make_19 k r212 r213 r214 r215 r216 r217 r218 r219 r220 r221 r222 r223 K0))))
def C_r06_Make_9 : Nat → Int → Bool → (List S_api_Leaf) → Int → (List Int) → Bool → (List Int) → Bool → (List Int) → (List Int) → Bool → (List Int) → Bool → (List Int) → (List Int) → (List (List Int)) → (List (List Int)) → (Bool → (List Int) → (List (List Int)) → Bool → (List Int) → (List Int) → Int → Prop) → Prop
  | 0, _, _, _, _, _, _, _, _, _, _, _, _, _, _, _, _, _, _ => False
  | k + 1, r8, r9, r10, r11, r12, r13, r14, r15, r16, r17, r18, r19, r20, r21, r22, r23, r24, K0 => (cond (decide ((2 : Int) ≤ ((List.length r10 : Nat) : Int))) ((Hold (C_r06_Make_11 k r8 r9 r10 r11 r12 r13 r14 r15 r16 r17 r18 r19 r20 r21 r22 r23 r24 K0))) ((Hold (C_r06_Make_15_1 k r9 r10 r13 r14 r15 r16 r17 r18 r19 r20 r21 r22 r23 r24 K0))))
def F_r06_Make (k : Nat) (r1 : Int) (r2 : (List S_api_Leaf)) (r3 : (List Int)) (K0 : Bool → (List Int) → (List (List Int)) → Bool → (List Int) → (List Int) → Int → Prop) : Prop := match k with
  | 0 => False
  | k + 1 => (Hold (F_r05_Root k r1 r2 (fun r4 r5 => (cond (!decide (r5 = (0 : Int))) (K0 false (List.replicate 32 (0 : Int)) [] false (List.replicate 32 (0 : Int)) (List.replicate 32 (0 : Int)) r5) ((Hold (F_r05_Get k r2 r3 (fun r6 r7 => (Hold (C_r06_Make_9 k r1 r7 r2 (0 : Int) r3 false (List.replicate 32 (0 : Int)) false (List.replicate 32 (0 : Int)) (List.replicate 32 (0 : Int)) r7 r6 false (List.replicate 32 (0 : Int)) (List.replicate 32 (0 : Int)) [] [] K0))))))))))
def C_r06_Same_4 : Nat → Int → (List (List Int)) → Bool → (List Int) → (List Int) → (List (List Int)) → Bool → (List Int) → (List Int) → (Bool → Prop) → Prop
  | 0, _, _, _, _, _, _, _, _, _, _ => False
  | k + 1, r9, r10, r11, r12, r13, r14, r15, r16, r17, K0 => (cond (decide (r9 < ((List.length r10 : Nat) : Int))) ((0 ≤ r9 ∧ r9 < ((List.length r10 : Nat) : Int)) ∧ (0 ≤ r9 ∧ r9 < ((List.length r14 : Nat) : Int)) ∧ (cond (!(decide ((List.getD r10 (Int.toNat r9) (List.replicate 32 (0 : Int))) = (List.getD r14 (Int.toNat r9) (List.replicate 32 (0 : Int)))))) (K0 false) ((Hold (C_r06_Same_4 k (IntKind.i64.wrap (r9 + (1 : Int))) r10 r11 r12 r13 r14 r15 r16 r17 K0))))) (K0 true))
def F_r06_Same (k : Nat) (r1 : (List (List Int))) (r2 : Bool) (r3 : (List Int)) (r4 : (List Int)) (r5 : (List (List Int))) (r6 : Bool) (r7 : (List Int)) (r8 : (List Int)) (K0 : Bool → Prop) : Prop := match k with
  | 0 => False
  | k + 1 => (cond (!(r2 == r6)) (K0 false) ((cond (!(decide (r3 = r7))) (K0 false) ((cond (!(decide (r4 = r8))) (K0 false) ((cond (!decide (((List.length r1 : Nat) : Int) = ((List.length r5 : Nat) : Int))) (K0 false) ((Hold (C_r06_Same_4 k (0 : Int) r1 r2 r3 r4 r5 r6 r7 r8 K0))))))))))
def C_l06_ProofMakes_10 : Nat → Int → Int → (Bool → Prop) → Prop
  | 0, _, _, _ => False
  | k + 1, r12, r13, K0 => (Hold (F_l06_makes k (fun r14 => (cond r14 (K0 (decide (r12 = r13))) (K0 false)))))
def F_l06_ProofMakes (k : Nat) (r1 : Int) (r2 : (List S_api_Leaf)) (r3 : (List Int)) (K0 : Bool → Prop) : Prop := match k with
  | 0 => False
  | k + 1 => (cond (decide ((200 : Int) < ((List.length r2 : Nat) : Int))) ((Hold (F_proof_Make k r1 r2 r3 (fun r4 r5 r6 r7 r8 r9 r10 => (Hold (F_r05_Width k r1 (fun r11 => (cond (!r11) ((Hold (C_l06_ProofMakes_10 k r10 (1 : Int) K0))) ((cond (decide ((4096 : Int) < ((List.length r2 : Nat) : Int))) ((Hold (C_l06_ProofMakes_10 k r10 (2 : Int) K0))) ((Hold (F_r05_Twice k r2 (fun r15 => (cond r15 ((Hold (C_l06_ProofMakes_10 k r10 (30 : Int) K0))) ((Hold (C_l06_ProofMakes_10 k r10 (0 : Int) K0)))))))))))))))))) ((Hold (F_proof_Make k r1 r2 r3 (fun r16 r17 r18 r19 r20 r21 r22 => (Hold (F_r06_Make k r1 r2 r3 (fun r23 r24 r25 r26 r27 r28 r29 => (Hold (F_l06_makes k (fun r30 => (cond r30 ((cond ((r16 == r23) && ((decide (r17 = r24)) && true)) ((cond (decide (r22 = r29)) ((Hold (F_r06_Same k r18 r19 r20 r21 r25 r26 r27 r28 (fun r31 => K0 r31)))) (K0 false))) (K0 false))) (K0 false)))))))))))))
end Go.V
