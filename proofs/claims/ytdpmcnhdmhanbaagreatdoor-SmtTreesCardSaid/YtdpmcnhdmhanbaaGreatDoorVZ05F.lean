import Derived.Test.YtdpmcnhdmhanbaaGreatDoorVJ11
import Derived.Test.YtdpmcnhdmhanbaaGreatDoorVJ10
set_option linter.unusedVariables false
namespace Go.V
open Go
structure S_api_Leaf where
  f0 : (List Int)
  f1 : (List Int)
structure S_l05_Op where
  f0 : Int
  f1 : (List S_api_Leaf)
  f2 : (List Int)
structure S_smt_Tree where
  f0 : Int
  f1 : Int
  f2 : Unit
structure S_sync_noCopy where
structure S_sync_atomic_Bool where
  f0 : S_sync_noCopy
  f1 : Int
structure S_internal_sync_Mutex where
  f0 : Int
  f1 : Int
structure S_sync_Mutex where
  f0 : S_sync_noCopy
  f1 : S_internal_sync_Mutex
structure S_sync_Once where
  f0 : S_sync_noCopy
  f1 : S_sync_atomic_Bool
  f2 : S_sync_Mutex
structure S_smt_made where
  f0 : S_sync_Once
  f1 : (List Int)
structure S_smt_knot where
  f0 : S_smt_made
  f1 : S_api_Leaf
  f2 : Unit
  f3 : Unit
structure S_sha_Hash where
  f0 : (List Int)
  f1 : (List Int)
  f2 : Int
def cmpL : List Int → List Int → Int
  | [], [] => 0
  | [], _ :: _ => -1
  | _ :: _, [] => 1
  | x :: a, y :: b => if x < y then -1 else if y < x then 1 else cmpL a b
/-- leaves by rising paths -/
def SortedL (l : List S_api_Leaf) : Prop := l.Pairwise fun a b => ¬ cmpL b.f0 a.f0 < 0
/-- a tree's digest at a width -/
def digT (w : Int) : KT S_api_Leaf → List Int
  | .nil => shortL w.toNat [2]
  | .node _ v l r => bif l.isNil && r.isNil then shortL w.toNat (0 :: (v.f0 ++ v.f1)) else shortL w.toNat (1 :: (digT w l ++ digT w r))
/-- all knots are of this width, and all leaves are of digests -/
def allG (w : Int) : KT S_api_Leaf → Prop
  | .nil => True
  | .node g v l r => g = w ∧ ((Dig v.f0 ∧ Dig v.f1) ∧ (allG w l ∧ allG w r))
def htT : KT S_api_Leaf → Nat
  | .nil => 0
  | .node _ _ l r => 1 + max (htT l) (htT r)
def digBound (x : KT S_api_Leaf) : Nat := 7000 + 10 * htT x

def G_sha_keys : (List Int) := [1116352408, 1899447441, 3049323471, 3921009573, 961987163, 1508970993, 2453635748, 2870763221, 3624381080, 310598401, 607225278, 1426881987, 1925078388, 2162078206, 2614888103, 3248222580, 3835390401, 4022224774, 264347078, 604807628, 770255983, 1249150122, 1555081692, 1996064986, 2554220882, 2821834349, 2952996808, 3210313671, 3336571891, 3584528711, 113926993, 338241895, 666307205, 773529912, 1294757372, 1396182291, 1695183700, 1986661051, 2177026350, 2456956037, 2730485921, 2820302411, 3259730800, 3345764771, 3516065817, 3600352804, 4094571909, 275423344, 430227734, 506948616, 659060556, 883997877, 958139571, 1322822218, 1537002063, 1747873779, 1955562222, 2024104815, 2227730452, 2361852424, 2428436474, 2756734187, 3204031479, 3329325298]
def G_r02_key : (List Int) := [1116352408, 1899447441, 3049323471, 3921009573, 961987163, 1508970993, 2453635748, 2870763221, 3624381080, 310598401, 607225278, 1426881987, 1925078388, 2162078206, 2614888103, 3248222580, 3835390401, 4022224774, 264347078, 604807628, 770255983, 1249150122, 1555081692, 1996064986, 2554220882, 2821834349, 2952996808, 3210313671, 3336571891, 3584528711, 113926993, 338241895, 666307205, 773529912, 1294757372, 1396182291, 1695183700, 1986661051, 2177026350, 2456956037, 2730485921, 2820302411, 3259730800, 3345764771, 3516065817, 3600352804, 4094571909, 275423344, 430227734, 506948616, 659060556, 883997877, 958139571, 1322822218, 1537002063, 1747873779, 1955562222, 2024104815, 2227730452, 2361852424, 2428436474, 2756734187, 3204031479, 3329325298]
def F_smt_width (k : Nat) (r1 : Int) (K0 : Bool → Prop) : Prop := match k with
  | 0 => False
  | k + 1 => (cond (decide ((0 : Int) ≤ r1)) (K0 (decide (r1 ≤ (32 : Int)))) (K0 false))
def F_smt_New (k : Nat) (r1 : Int) (K0 : Int → Prop) (K1 : Int → Int → Int → (KT S_api_Leaf) → Prop) : Prop := match k with
  | 0 => False
  | k + 1 => (Hold (F_smt_width k r1 (fun r2 => (cond (!r2) (K0 (1 : Int)) (K1 (0 : Int) r1 (0 : Int) (KT.nil : KT S_api_Leaf))))))
def F_l05_a (k : Nat)  (K0 : (List Int) → (List Int) → Prop) : Prop := match k with
  | 0 => False
  | k + 1 => K0 (List.replicate 32 (0 : Int)) [(5 : Int), (0 : Int), (0 : Int), (0 : Int), (0 : Int), (0 : Int), (0 : Int), (0 : Int), (0 : Int), (0 : Int), (0 : Int), (0 : Int), (0 : Int), (0 : Int), (0 : Int), (0 : Int), (0 : Int), (0 : Int), (0 : Int), (0 : Int), (0 : Int), (0 : Int), (0 : Int), (0 : Int), (0 : Int), (0 : Int), (0 : Int), (0 : Int), (0 : Int), (0 : Int), (0 : Int), (0 : Int)]
def F_l05_b (k : Nat)  (K0 : (List Int) → (List Int) → Prop) : Prop := match k with
  | 0 => False
  | k + 1 => K0 [(128 : Int), (0 : Int), (0 : Int), (0 : Int), (0 : Int), (0 : Int), (0 : Int), (0 : Int), (0 : Int), (0 : Int), (0 : Int), (0 : Int), (0 : Int), (0 : Int), (0 : Int), (0 : Int), (0 : Int), (0 : Int), (0 : Int), (0 : Int), (0 : Int), (0 : Int), (0 : Int), (0 : Int), (0 : Int), (0 : Int), (0 : Int), (0 : Int), (0 : Int), (0 : Int), (0 : Int), (0 : Int)] [(6 : Int), (0 : Int), (0 : Int), (0 : Int), (0 : Int), (0 : Int), (0 : Int), (0 : Int), (0 : Int), (0 : Int), (0 : Int), (0 : Int), (0 : Int), (0 : Int), (0 : Int), (0 : Int), (0 : Int), (0 : Int), (0 : Int), (0 : Int), (0 : Int), (0 : Int), (0 : Int), (0 : Int), (0 : Int), (0 : Int), (0 : Int), (0 : Int), (0 : Int), (0 : Int), (0 : Int), (0 : Int)]
def F_slices_Clone_api_Leaf_api_Leaf (k : Nat) (r1 : (List S_api_Leaf)) (K0 : (List S_api_Leaf) → Prop) : Prop := match k with
  | 0 => False
  | k + 1 => (∀ r2 : Bool, (r2 = true → r1 = ([] : List S_api_Leaf)) → (cond r2 (K0 []) ((room (List.length ([] : List S_api_Leaf) + List.length r1) 64) ∧ K0 (([] : List S_api_Leaf) ++ r1))))
def F_cmp_isNaN_byte (k : Nat) (r1 : Int) (K0 : Bool → Prop) : Prop := match k with
  | 0 => False
  | k + 1 => K0 (!decide (r1 = r1))
def F_cmp_Compare_byte (k : Nat) (r1 : Int) (r2 : Int) (K0 : Int → Prop) : Prop := match k with
  | 0 => False
  | k + 1 => (Hold (F_cmp_isNaN_byte k r1 (fun r3 => (Hold (F_cmp_isNaN_byte k r2 (fun r4 => (cond r3 ((cond r4 (K0 (0 : Int)) (K0 (-1 : Int)))) ((cond r4 (K0 (1 : Int)) ((cond (decide (r1 < r2)) (K0 (-1 : Int)) ((cond (decide (r2 < r1)) (K0 (1 : Int)) (K0 (0 : Int)))))))))))))))
def C_slices_Compare_byte_byte_2 : Nat → (List Int) → (List Int) → (List Int) → Int → Int → (Int → Prop) → Prop
  | 0, _, _, _, _, _, _ => False
  | k + 1, r3, r4, r5, r6, r7, K0 => (cond (decide (r7 < r6)) ((0 ≤ r7 ∧ r7 < ((List.length r5 : Nat) : Int)) ∧ (cond (decide (((List.length r4 : Nat) : Int) ≤ r7)) (K0 (1 : Int)) ((0 ≤ r7 ∧ r7 < ((List.length r4 : Nat) : Int)) ∧ (Hold (F_cmp_Compare_byte k (List.getD r5 (Int.toNat r7) (0 : Int)) (List.getD r4 (Int.toNat r7) (0 : Int)) (fun r8 => (cond (!decide (r8 = (0 : Int))) (K0 r8) ((Hold (C_slices_Compare_byte_byte_2 k r3 r4 r5 r6 (IntKind.i64.wrap (r7 + (1 : Int))) K0)))))))))) ((cond (decide (((List.length r3 : Nat) : Int) < ((List.length r4 : Nat) : Int))) (K0 (-1 : Int)) (K0 (0 : Int)))))
def F_slices_Compare_byte_byte (k : Nat) (r1 : (List Int)) (r2 : (List Int)) (K0 : Int → Prop) : Prop := match k with
  | 0 => False
  | k + 1 => (Hold (C_slices_Compare_byte_byte_2 k r1 r2 r1 ((List.length r1 : Nat) : Int) (0 : Int) K0))
def F_smt_twice_1 (k : Nat) (r1 : (List Int)) (r2 : (List Int)) (r3 : (List Int)) (r4 : (List Int)) (K0 : Int → Prop) : Prop := match k with
  | 0 => False
  | k + 1 => (0 ≤ (0 : Int) ∧ (0 : Int) ≤ (32 : Int) ∧ (32 : Int) ≤ (32 : Int)) ∧ (0 ≤ (0 : Int) ∧ (0 : Int) ≤ (32 : Int) ∧ (32 : Int) ≤ (32 : Int)) ∧ (Hold (F_slices_Compare_byte_byte k (cut r1 (Int.toNat (0 : Int)) (Int.toNat ((32 : Int) - (0 : Int)))) (cut r3 (Int.toNat (0 : Int)) (Int.toNat ((32 : Int) - (0 : Int)))) (fun r5 => K0 r5)))
def F_slices_SortFunc_api_Leaf_api_Leaf (k : Nat) (r1 : (List S_api_Leaf)) (K0 : (List S_api_Leaf) → Prop) : Prop := match k with
  | 0 => False
  | k + 1 => (100 ≤ k ∧ List.length r1 < 4611686018427387904) ∧ ∀ l9 : (List S_api_Leaf), List.Perm l9 r1 ∧ SortedL l9 → K0 l9
def C_smt_twice_4 : Nat → Int → Int → (List S_api_Leaf) → (Bool → Prop) → Prop
  | 0, _, _, _, _ => False
  | k + 1, r4, r5, r6, K0 => (cond (decide (r5 < r4)) ((cond (decide ((0 : Int) < r5)) ((0 ≤ r5 ∧ r5 < ((List.length r6 : Nat) : Int)) ∧ (0 ≤ (IntKind.i64.wrap (r5 - (1 : Int))) ∧ (IntKind.i64.wrap (r5 - (1 : Int))) < ((List.length r6 : Nat) : Int)) ∧ (cond (decide ((List.getD r6 (Int.toNat r5) (S_api_Leaf.mk (List.replicate 32 (0 : Int)) (List.replicate 32 (0 : Int)))).f0 = (List.getD r6 (Int.toNat (IntKind.i64.wrap (r5 - (1 : Int)))) (S_api_Leaf.mk (List.replicate 32 (0 : Int)) (List.replicate 32 (0 : Int)))).f0)) (K0 true) ((Hold (C_smt_twice_4 k r4 (IntKind.i64.wrap (r5 + (1 : Int))) r6 K0))))) ((Hold (C_smt_twice_4 k r4 (IntKind.i64.wrap (r5 + (1 : Int))) r6 K0))))) (K0 false))
def F_smt_twice (k : Nat) (r1 : (List S_api_Leaf)) (K0 : Bool → Prop) : Prop := match k with
  | 0 => False
  | k + 1 => (Hold (F_slices_Clone_api_Leaf_api_Leaf k r1 (fun r2 => (Hold (F_slices_SortFunc_api_Leaf_api_Leaf k r2 (fun r3 => (Hold (C_smt_twice_4 k ((List.length r3 : Nat) : Int) (0 : Int) r3 K0))))))))
def F_smt_knot_inner (k : Nat) (r1 : (KT S_api_Leaf)) (K0 : Bool → Prop) : Prop := match k with
  | 0 => False
  | k + 1 => (cond (!(KT.isNil r1)) ((KT.isNil r1 = false) ∧ (KT.isNil r1 = false) ∧ (cond (!(KT.isNil (KT.lt r1))) (K0 true) ((KT.isNil r1 = false) ∧ (KT.isNil r1 = false) ∧ K0 (!(KT.isNil (KT.rt r1)))))) (K0 false))
def F_path_mask (k : Nat) (r1 : Int) (K0 : Int → Prop) : Prop := match k with
  | 0 => False
  | k + 1 => ((8 : Int) ≠ 0) ∧ (0 ≤ (IntKind.i64.wrap ((7 : Int) - (Int.tmod r1 (8 : Int))))) ∧ K0 (ishl .u8 (1 : Int) (IntKind.i64.wrap ((7 : Int) - (Int.tmod r1 (8 : Int)))))
def F_path_Bit (k : Nat) (r1 : (List Int)) (r2 : Int) (K0 : Int → Int → Prop) : Prop := match k with
  | 0 => False
  | k + 1 => (cond (decide (r2 < (0 : Int))) (K0 (0 : Int) (20 : Int)) ((cond (decide ((256 : Int) ≤ r2)) (K0 (0 : Int) (20 : Int)) (((8 : Int) ≠ 0) ∧ (0 ≤ (IntKind.i64.wrap (Int.tdiv r2 (8 : Int))) ∧ (IntKind.i64.wrap (Int.tdiv r2 (8 : Int))) < (32 : Int)) ∧ (Hold (F_path_mask k r2 (fun r3 => (cond (!decide ((iand .u8 (List.getD r1 (Int.toNat (IntKind.i64.wrap (Int.tdiv r2 (8 : Int)))) (0 : Int)) r3) = (0 : Int))) (K0 (1 : Int) (0 : Int)) (K0 (0 : Int) (0 : Int))))))))))
def F_smt_right (k : Nat) (r1 : (List Int)) (r2 : Int) (K0 : Bool → Prop) : Prop := match k with
  | 0 => False
  | k + 1 => (Hold (F_path_Bit k r1 r2 (fun r3 r4 => K0 (decide (r3 = (1 : Int))))))
def C_smt_Tree_Get_11 : Nat → Int → Int → (KT S_api_Leaf) → (List Int) → ((List Int) → Bool → Int → Int → (KT S_api_Leaf) → Prop) → Prop
  | 0, _, _, _, _, _ => False
  | k + 1, r14, r15, r16, r17, K0 => K0 [(0 : Int), (0 : Int), (0 : Int), (0 : Int), (0 : Int), (0 : Int), (0 : Int), (0 : Int), (0 : Int), (0 : Int), (0 : Int), (0 : Int), (0 : Int), (0 : Int), (0 : Int), (0 : Int), (0 : Int), (0 : Int), (0 : Int), (0 : Int), (0 : Int), (0 : Int), (0 : Int), (0 : Int), (0 : Int), (0 : Int), (0 : Int), (0 : Int), (0 : Int), (0 : Int), (0 : Int), (0 : Int)] false r14 r15 r16
def C_smt_Tree_Get_5 : Nat → (KT S_api_Leaf) → Int → Int → Int → (KT S_api_Leaf) → (List Int) → (List Int) → ((List Int) → Bool → Int → Int → (KT S_api_Leaf) → Prop) → Prop
  | 0, _, _, _, _, _, _, _, _ => False
  | k + 1, r5, r6, r7, r8, r9, r10, r11, K0 => (Hold (F_smt_knot_inner k r5 (fun r12 => (cond r12 ((Hold (F_smt_right k r10 r6 (fun r13 => (cond r13 ((KT.isNil r5 = false) ∧ (KT.isNil r5 = false) ∧ (Hold (C_smt_Tree_Get_5 k (KT.rt r5) (IntKind.i64.wrap (r6 + (1 : Int))) r7 r8 r9 r10 r11 K0))) ((KT.isNil r5 = false) ∧ (KT.isNil r5 = false) ∧ (Hold (C_smt_Tree_Get_5 k (KT.lt r5) (IntKind.i64.wrap (r6 + (1 : Int))) r7 r8 r9 r10 r11 K0)))))))) ((cond (KT.isNil r5) ((Hold (C_smt_Tree_Get_11 k r7 r8 r9 r11 K0))) ((KT.isNil r5 = false) ∧ (KT.isNil r5 = false) ∧ (KT.isNil r5 = false) ∧ (cond (!(decide ((KT.lf (S_api_Leaf.mk (List.replicate 32 (0 : Int)) (List.replicate 32 (0 : Int))) r5).f0 = r10))) ((Hold (C_smt_Tree_Get_11 k r7 r8 r9 r11 K0))) ((KT.isNil r5 = false) ∧ (KT.isNil r5 = false) ∧ (KT.isNil r5 = false) ∧ K0 (KT.lf (S_api_Leaf.mk (List.replicate 32 (0 : Int)) (List.replicate 32 (0 : Int))) r5).f1 true r7 r8 r9)))))))))
def F_smt_Tree_Get (k : Nat) (r1 : (List Int)) (r2 : Int) (r3 : Int) (r4 : (KT S_api_Leaf)) (K0 : (List Int) → Bool → Int → Int → (KT S_api_Leaf) → Prop) : Prop := match k with
  | 0 => False
  | k + 1 => (Hold (C_smt_Tree_Get_5 k r4 (0 : Int) r2 r3 r4 r1 (List.replicate 32 (0 : Int)) K0))
mutual
def C_smt_knot_with_8_1 : Nat → (KT S_api_Leaf) → Int → (List Int) → (List Int) → ((KT S_api_Leaf) → Prop) → Prop
  | 0, _, _, _, _, _ => False
  | k + 1, r38, r39, r40, r41, K0 => (KT.isNil r38 = false) ∧ (KT.isNil r38 = false) ∧ (KT.isNil r38 = false) ∧ (KT.isNil r38 = false) ∧ (∃ r42 : Int, (Hold (C_smt_knot_with_9 k r39 r40 r41 r42 (List.replicate 32 (0 : Int)) (List.replicate 32 (0 : Int)) (List.replicate 32 (0 : Int)) (KT.lt r38) (KT.rt r38) K0)))
def F_smt_knot_with : Nat → (KT S_api_Leaf) → (List Int) → (List Int) → Int → ((KT S_api_Leaf) → Prop) → Prop
  | 0, _, _, _, _, _ => False
  | k + 1, r1, r2, r3, r4, K0 => (cond (KT.isNil r1) ((∃ r5 : Int, K0 (KT.node r5 (S_api_Leaf.mk r2 r3) (KT.nil : KT S_api_Leaf) (KT.nil : KT S_api_Leaf)))) ((Hold (F_smt_knot_inner k r1 (fun r6 => (cond (!r6) ((KT.isNil r1 = false) ∧ (KT.isNil r1 = false) ∧ (KT.isNil r1 = false) ∧ (cond (decide ((KT.lf (S_api_Leaf.mk (List.replicate 32 (0 : Int)) (List.replicate 32 (0 : Int))) r1).f0 = r2)) ((∃ r7 : Int, K0 (KT.node r7 (S_api_Leaf.mk r2 r3) (KT.nil : KT S_api_Leaf) (KT.nil : KT S_api_Leaf)))) ((Hold (C_smt_knot_with_3 k r1 r4 r2 r3 K0))))) ((Hold (C_smt_knot_with_3 k r1 r4 r2 r3 K0)))))))))
def C_smt_knot_with_9 : Nat → Int → (List Int) → (List Int) → Int → (List Int) → (List Int) → (List Int) → (KT S_api_Leaf) → (KT S_api_Leaf) → ((KT S_api_Leaf) → Prop) → Prop
  | 0, _, _, _, _, _, _, _, _, _, _ => False
  | k + 1, r26, r27, r28, r29, r30, r31, r32, r33, r34, K0 => (Hold (F_smt_right k r27 r26 (fun r35 => (cond r35 ((Hold (F_smt_knot_with k r34 r27 r28 (IntKind.i64.wrap (r26 + (1 : Int))) (fun r36 => K0 (KT.node r29 (S_api_Leaf.mk r31 r32) r33 r36))))) ((Hold (F_smt_knot_with k r33 r27 r28 (IntKind.i64.wrap (r26 + (1 : Int))) (fun r37 => K0 (KT.node r29 (S_api_Leaf.mk r31 r32) r37 r34)))))))))
def C_smt_knot_with_8 : Nat → Int → Int → (List Int) → (List Int) → (List Int) → (KT S_api_Leaf) → (KT S_api_Leaf) → (List Int) → (List Int) → ((KT S_api_Leaf) → Prop) → Prop
  | 0, _, _, _, _, _, _, _, _, _, _ => False
  | k + 1, r16, r17, r18, r19, r20, r21, r22, r23, r24, K0 => (∃ r25 : Int, (Hold (C_smt_knot_with_9 k r16 r23 r24 r25 (List.replicate 32 (0 : Int)) (List.replicate 32 (0 : Int)) (List.replicate 32 (0 : Int)) r21 r22 K0)))
def C_smt_knot_with_3 : Nat → (KT S_api_Leaf) → Int → (List Int) → (List Int) → ((KT S_api_Leaf) → Prop) → Prop
  | 0, _, _, _, _, _ => False
  | k + 1, r8, r9, r10, r11, K0 => (Hold (F_smt_knot_inner k r8 (fun r12 => (cond (!r12) ((KT.isNil r8 = false) ∧ (KT.isNil r8 = false) ∧ (∃ r13 : Int, (∃ r14 : Int, (Hold (F_smt_right k (KT.lf (S_api_Leaf.mk (List.replicate 32 (0 : Int)) (List.replicate 32 (0 : Int))) r8).f0 r9 (fun r15 => (cond r15 ((Hold (C_smt_knot_with_8 k r9 r14 (List.replicate 32 (0 : Int)) (List.replicate 32 (0 : Int)) (List.replicate 32 (0 : Int)) (KT.nil : KT S_api_Leaf) (KT.node r13 (S_api_Leaf.mk (KT.lf (S_api_Leaf.mk (List.replicate 32 (0 : Int)) (List.replicate 32 (0 : Int))) r8).f0 (KT.lf (S_api_Leaf.mk (List.replicate 32 (0 : Int)) (List.replicate 32 (0 : Int))) r8).f1) (KT.nil : KT S_api_Leaf) (KT.nil : KT S_api_Leaf)) r10 r11 K0))) ((Hold (C_smt_knot_with_8 k r9 r14 (List.replicate 32 (0 : Int)) (List.replicate 32 (0 : Int)) (List.replicate 32 (0 : Int)) (KT.node r13 (S_api_Leaf.mk (KT.lf (S_api_Leaf.mk (List.replicate 32 (0 : Int)) (List.replicate 32 (0 : Int))) r8).f0 (KT.lf (S_api_Leaf.mk (List.replicate 32 (0 : Int)) (List.replicate 32 (0 : Int))) r8).f1) (KT.nil : KT S_api_Leaf) (KT.nil : KT S_api_Leaf)) (KT.nil : KT S_api_Leaf) r10 r11 K0)))))))))) ((Hold (C_smt_knot_with_8_1 k r8 r9 r10 r11 K0)))))))
end
mutual
def C_smt_Tree_Set_14 : Nat → (KT S_api_Leaf) → Int → Int → Int → Int → Int → (KT S_api_Leaf) → (List S_api_Leaf) → (List Int) → (List Int) → (Int → Int → Int → (KT S_api_Leaf) → (List S_api_Leaf) → Prop) → Prop
  | 0, _, _, _, _, _, _, _, _, _, _, _ => False
  | k + 1, r19, r20, r21, r22, r23, r24, r25, r26, r27, r28, K0 => (Hold (F_smt_knot_with k r19 r27 r28 (0 : Int) (fun r29 => (Hold (C_smt_Tree_Set_9 k r29 r20 r21 (IntKind.i64.wrap (r22 + (1 : Int))) r23 r24 r25 r26 K0)))))
def C_smt_Tree_Set_9 : Nat → (KT S_api_Leaf) → Int → Int → Int → Int → Int → (KT S_api_Leaf) → (List S_api_Leaf) → (Int → Int → Int → (KT S_api_Leaf) → (List S_api_Leaf) → Prop) → Prop
  | 0, _, _, _, _, _, _, _, _, _ => False
  | k + 1, r6, r7, r8, r9, r10, r11, r12, r13, K0 => (cond (decide (r9 < r8)) ((0 ≤ r9 ∧ r9 < ((List.length r13 : Nat) : Int)) ∧ (Hold (F_smt_Tree_Get k (List.getD r13 (Int.toNat r9) (S_api_Leaf.mk (List.replicate 32 (0 : Int)) (List.replicate 32 (0 : Int)))).f0 r10 r11 r12 (fun r14 r15 r16 r17 r18 => (cond (!r15) ((Hold (C_smt_Tree_Set_14 k r6 (IntKind.i64.wrap (r7 + (1 : Int))) r8 r9 r16 r17 r18 r13 (List.getD r13 (Int.toNat r9) (S_api_Leaf.mk (List.replicate 32 (0 : Int)) (List.replicate 32 (0 : Int)))).f0 (List.getD r13 (Int.toNat r9) (S_api_Leaf.mk (List.replicate 32 (0 : Int)) (List.replicate 32 (0 : Int)))).f1 K0))) ((Hold (C_smt_Tree_Set_14 k r6 r7 r8 r9 r16 r17 r18 r13 (List.getD r13 (Int.toNat r9) (S_api_Leaf.mk (List.replicate 32 (0 : Int)) (List.replicate 32 (0 : Int)))).f0 (List.getD r13 (Int.toNat r9) (S_api_Leaf.mk (List.replicate 32 (0 : Int)) (List.replicate 32 (0 : Int)))).f1 K0)))))))) ((cond (decide ((4096 : Int) < r7)) (K0 (2 : Int) r10 r11 r12 r13) (K0 (0 : Int) r10 r7 r6 r13))))
end
def F_smt_Tree_Set (k : Nat) (r1 : Int) (r2 : Int) (r3 : (KT S_api_Leaf)) (r4 : (List S_api_Leaf)) (K0 : Int → Int → Int → (KT S_api_Leaf) → (List S_api_Leaf) → Prop) : Prop := match k with
  | 0 => False
  | k + 1 => (cond (decide ((4096 : Int) < ((List.length r4 : Nat) : Int))) (K0 (2 : Int) r1 r2 r3 r4) ((Hold (F_smt_twice k r4 (fun r5 => (cond r5 (K0 (30 : Int) r1 r2 r3 r4) ((Hold (C_smt_Tree_Set_9 k r3 r2 ((List.length r4 : Nat) : Int) (0 : Int) r1 r2 r3 r4 K0)))))))))
def C_smt_knot_without_11 : Nat → Int → (List Int) → (List Int) → (List Int) → (KT S_api_Leaf) → (KT S_api_Leaf) → ((KT S_api_Leaf) → Prop) → Prop
  | 0, _, _, _, _, _, _, _ => False
  | k + 1, r19, r20, r21, r22, r23, r24, K0 => (cond (KT.isNil r24) ((Hold (F_smt_knot_inner k r23 (fun r25 => (cond (!r25) (K0 r23) (K0 (KT.node r19 (S_api_Leaf.mk r21 r22) r23 r24))))))) (K0 (KT.node r19 (S_api_Leaf.mk r21 r22) r23 r24)))
def C_smt_knot_without_9 : Nat → Int → (List Int) → (List Int) → (List Int) → (KT S_api_Leaf) → (KT S_api_Leaf) → ((KT S_api_Leaf) → Prop) → Prop
  | 0, _, _, _, _, _, _, _ => False
  | k + 1, r12, r13, r14, r15, r16, r17, K0 => (cond (KT.isNil r16) ((Hold (F_smt_knot_inner k r17 (fun r18 => (cond (!r18) (K0 r17) ((Hold (C_smt_knot_without_11 k r12 r13 r14 r15 r16 r17 K0)))))))) ((Hold (C_smt_knot_without_11 k r12 r13 r14 r15 r16 r17 K0))))
mutual
def F_smt_knot_without : Nat → (KT S_api_Leaf) → (List Int) → Int → ((KT S_api_Leaf) → Prop) → Prop
  | 0, _, _, _, _ => False
  | k + 1, r1, r2, r3, K0 => (cond (KT.isNil r1) (K0 (KT.nil : KT S_api_Leaf)) ((Hold (F_smt_knot_inner k r1 (fun r4 => (cond (!r4) ((KT.isNil r1 = false) ∧ (KT.isNil r1 = false) ∧ (KT.isNil r1 = false) ∧ (cond (decide ((KT.lf (S_api_Leaf.mk (List.replicate 32 (0 : Int)) (List.replicate 32 (0 : Int))) r1).f0 = r2)) (K0 (KT.nil : KT S_api_Leaf)) ((Hold (C_smt_knot_without_3 k r1 r3 r2 K0))))) ((Hold (C_smt_knot_without_3 k r1 r3 r2 K0)))))))))
def C_smt_knot_without_3 : Nat → (KT S_api_Leaf) → Int → (List Int) → ((KT S_api_Leaf) → Prop) → Prop
  | 0, _, _, _, _ => False
  | k + 1, r5, r6, r7, K0 => (Hold (F_smt_knot_inner k r5 (fun r8 => (cond (!r8) (K0 r5) ((KT.isNil r5 = false) ∧ (KT.isNil r5 = false) ∧ (KT.isNil r5 = false) ∧ (KT.isNil r5 = false) ∧ (∃ r9 : Int, (Hold (F_smt_right k r7 r6 (fun r10 => (cond r10 ((Hold (F_smt_knot_without k (KT.rt r5) r7 (IntKind.i64.wrap (r6 + (1 : Int))) (fun r11 => (Hold (C_smt_knot_without_9 k r9 (List.replicate 32 (0 : Int)) (List.replicate 32 (0 : Int)) (List.replicate 32 (0 : Int)) (KT.lt r5) r11 K0)))))) ((Hold (F_smt_knot_without k (KT.lt r5) r7 (IntKind.i64.wrap (r6 + (1 : Int))) (fun r26 => (Hold (C_smt_knot_without_9 k r9 (List.replicate 32 (0 : Int)) (List.replicate 32 (0 : Int)) (List.replicate 32 (0 : Int)) r26 (KT.rt r5) K0))))))))))))))))
end
def F_smt_Tree_Drop (k : Nat) (r1 : (List Int)) (r2 : Int) (r3 : Int) (r4 : (KT S_api_Leaf)) (K0 : Bool → Int → Int → (KT S_api_Leaf) → Prop) : Prop := match k with
  | 0 => False
  | k + 1 => (Hold (F_smt_Tree_Get k r1 r2 r3 r4 (fun r5 r6 r7 r8 r9 => (cond r6 ((Hold (F_smt_knot_without k r9 r1 (0 : Int) (fun r10 => K0 r6 r7 (IntKind.i64.wrap (r8 - (1 : Int))) r10)))) (K0 r6 r7 r8 r9)))))
def F_smt_Tree_Len (k : Nat) (r1 : Int) (r2 : Int) (r3 : (KT S_api_Leaf)) (K0 : Int → Int → Int → (KT S_api_Leaf) → Prop) : Prop := match k with
  | 0 => False
  | k + 1 => K0 r2 r1 r2 r3
def F_smt_knot_inner_s1 (k : Nat) (r1 : Int) (r2 : Int) (r3 : Int) (r4 : (List Int)) (r5 : (List Int)) (r6 : (List Int)) (r7 : (KT S_api_Leaf)) (r8 : (KT S_api_Leaf)) (K1 : Bool → Int → Int → Int → (List Int) → (List Int) → (List Int) → (KT S_api_Leaf) → (KT S_api_Leaf) → Prop) : Prop := match k with
  | 0 => False
  | k + 1 => (cond (!(KT.isNil r7)) (K1 true r1 r2 r3 r4 r5 r6 r7 r8) (K1 (!(KT.isNil r8)) r1 r2 r3 r4 r5 r6 r7 r8))
def F_sha_New (k : Nat)  (K0 : (List Int) → (List Int) → Int → Prop) : Prop := match k with
  | 0 => False
  | k + 1 => K0 [(1779033703 : Int), (3144134277 : Int), (1013904242 : Int), (2773480762 : Int), (1359893119 : Int), (2600822924 : Int), (528734635 : Int), (1541459225 : Int)] (List.replicate 64 (0 : Int)) (0 : Int)
def F_math_bits_RotateLeft32 (k : Nat) (r1 : Int) (r2 : Int) (K0 : Int → Prop) : Prop := match k with
  | 0 => False
  | k + 1 => (0 ≤ (iand .u64 (IntKind.u64.wrap r2) (31 : Int))) ∧ (0 ≤ (IntKind.u64.wrap ((32 : Int) - (iand .u64 (IntKind.u64.wrap r2) (31 : Int))))) ∧ K0 (ior .u32 (ishl .u32 r1 (iand .u64 (IntKind.u64.wrap r2) (31 : Int))) (ishr .u32 r1 (IntKind.u64.wrap ((32 : Int) - (iand .u64 (IntKind.u64.wrap r2) (31 : Int))))))
def C_sha_Hash_mix_23 : Nat → (List Int) → Int → (List Int) → (List Int) → Int → ((List Int) → (List Int) → Int → Prop) → Prop
  | 0, _, _, _, _, _, _ => False
  | k + 1, r37, r38, r39, r40, r41, K0 => (cond (decide (r38 < (8 : Int))) ((0 ≤ r38 ∧ r38 < (8 : Int)) ∧ (0 ≤ r38 ∧ r38 < (8 : Int)) ∧ (0 ≤ r38 ∧ r38 < (8 : Int)) ∧ (Hold (C_sha_Hash_mix_23 k r37 (IntKind.i64.wrap (r38 + (1 : Int))) (List.set r39 (Int.toNat r38) (IntKind.u32.wrap ((List.getD r39 (Int.toNat r38) (0 : Int)) + (List.getD r37 (Int.toNat r38) (0 : Int))))) r40 r41 K0))) (K0 r39 r40 r41))
def C_sha_Hash_mix_14 : Nat → Int → Int → Int → Int → Int → Int → Int → Int → (List Int) → Int → (List Int) → (List Int) → Int → ((List Int) → (List Int) → Int → Prop) → Prop
  | 0, _, _, _, _, _, _, _, _, _, _, _, _, _, _ => False
  | k + 1, r18, r19, r20, r21, r22, r23, r24, r25, r26, r27, r28, r29, r30, K0 => (cond (decide (r27 < (64 : Int))) ((0 ≤ r27 ∧ r27 < (64 : Int)) ∧ (Hold (F_math_bits_RotateLeft32 k r22 (-6 : Int) (fun r31 => (Hold (F_math_bits_RotateLeft32 k r22 (-11 : Int) (fun r32 => (Hold (F_math_bits_RotateLeft32 k r22 (-25 : Int) (fun r33 => (0 ≤ r27 ∧ r27 < (64 : Int)) ∧ (Hold (F_math_bits_RotateLeft32 k r18 (-2 : Int) (fun r34 => (Hold (F_math_bits_RotateLeft32 k r18 (-13 : Int) (fun r35 => (Hold (F_math_bits_RotateLeft32 k r18 (-22 : Int) (fun r36 => (Hold (C_sha_Hash_mix_14 k (IntKind.u32.wrap ((IntKind.u32.wrap ((IntKind.u32.wrap ((IntKind.u32.wrap ((IntKind.u32.wrap (r25 + (ixor .u32 (ixor .u32 r31 r32) r33))) + (ixor .u32 (iand .u32 r22 (ixor .u32 r23 r24)) r24))) + (List.getD (List.getD [G_sha_keys] 0 (List.replicate 64 (0 : Int))) (Int.toNat r27) (0 : Int)))) + (List.getD r26 (Int.toNat r27) (0 : Int)))) + (IntKind.u32.wrap ((ixor .u32 (ixor .u32 r34 r35) r36) + (ior .u32 (iand .u32 r18 r19) (iand .u32 r20 (ior .u32 r18 r19))))))) r18 r19 r20 (IntKind.u32.wrap (r21 + (IntKind.u32.wrap ((IntKind.u32.wrap ((IntKind.u32.wrap ((IntKind.u32.wrap (r25 + (ixor .u32 (ixor .u32 r31 r32) r33))) + (ixor .u32 (iand .u32 r22 (ixor .u32 r23 r24)) r24))) + (List.getD (List.getD [G_sha_keys] 0 (List.replicate 64 (0 : Int))) (Int.toNat r27) (0 : Int)))) + (List.getD r26 (Int.toNat r27) (0 : Int)))))) r22 r23 r24 r26 (IntKind.i64.wrap (r27 + (1 : Int))) r28 r29 r30 K0))))))))))))))))))))) ((Hold (C_sha_Hash_mix_23 k [r18, r19, r20, r21, r22, r23, r24, r25] (0 : Int) r28 r29 r30 K0))))
mutual
def C_sha_Hash_mix_11 : Nat → Int → (List Int) → (List Int) → Int → (List Int) → ((List Int) → (List Int) → Int → Prop) → Prop
  | 0, _, _, _, _, _, _ => False
  | k + 1, r9, r10, r11, r12, r13, K0 => (Hold (C_sha_Hash_mix_2 k (IntKind.i64.wrap (r9 + (1 : Int))) r10 r11 r12 r13 K0))
def C_sha_Hash_mix_2 : Nat → Int → (List Int) → (List Int) → Int → (List Int) → ((List Int) → (List Int) → Int → Prop) → Prop
  | 0, _, _, _, _, _, _ => False
  | k + 1, r4, r5, r6, r7, r8, K0 => (cond (decide (r4 < (64 : Int))) ((cond (decide (r4 < (16 : Int))) ((0 ≤ (IntKind.i64.wrap ((4 : Int) * r4)) ∧ (IntKind.i64.wrap ((4 : Int) * r4)) ≤ (64 : Int) ∧ (64 : Int) ≤ (64 : Int)) ∧ (0 ≤ (0 : Int) ∧ (0 : Int) < (((Int.toNat ((64 : Int) - (IntKind.i64.wrap ((4 : Int) * r4)))) : Nat) : Int)) ∧ (0 ≤ (24 : Int)) ∧ (0 ≤ (1 : Int) ∧ (1 : Int) < (((Int.toNat ((64 : Int) - (IntKind.i64.wrap ((4 : Int) * r4)))) : Nat) : Int)) ∧ (0 ≤ (16 : Int)) ∧ (0 ≤ (2 : Int) ∧ (2 : Int) < (((Int.toNat ((64 : Int) - (IntKind.i64.wrap ((4 : Int) * r4)))) : Nat) : Int)) ∧ (0 ≤ (8 : Int)) ∧ (0 ≤ (3 : Int) ∧ (3 : Int) < (((Int.toNat ((64 : Int) - (IntKind.i64.wrap ((4 : Int) * r4)))) : Nat) : Int)) ∧ (0 ≤ r4 ∧ r4 < (64 : Int)) ∧ (Hold (C_sha_Hash_mix_11 k r4 r5 r6 r7 (List.set r8 (Int.toNat r4) (ior .u32 (ior .u32 (ior .u32 (ishl .u32 (IntKind.u32.wrap (List.getD r6 ((Int.toNat (IntKind.i64.wrap ((4 : Int) * r4))) + (Int.toNat (0 : Int))) (0 : Int))) (24 : Int)) (ishl .u32 (IntKind.u32.wrap (List.getD r6 ((Int.toNat (IntKind.i64.wrap ((4 : Int) * r4))) + (Int.toNat (1 : Int))) (0 : Int))) (16 : Int))) (ishl .u32 (IntKind.u32.wrap (List.getD r6 ((Int.toNat (IntKind.i64.wrap ((4 : Int) * r4))) + (Int.toNat (2 : Int))) (0 : Int))) (8 : Int))) (IntKind.u32.wrap (List.getD r6 ((Int.toNat (IntKind.i64.wrap ((4 : Int) * r4))) + (Int.toNat (3 : Int))) (0 : Int))))) K0))) ((0 ≤ (IntKind.i64.wrap (r4 - (15 : Int))) ∧ (IntKind.i64.wrap (r4 - (15 : Int))) < (64 : Int)) ∧ (0 ≤ (IntKind.i64.wrap (r4 - (2 : Int))) ∧ (IntKind.i64.wrap (r4 - (2 : Int))) < (64 : Int)) ∧ (Hold (F_math_bits_RotateLeft32 k (List.getD r8 (Int.toNat (IntKind.i64.wrap (r4 - (15 : Int)))) (0 : Int)) (-7 : Int) (fun r14 => (Hold (F_math_bits_RotateLeft32 k (List.getD r8 (Int.toNat (IntKind.i64.wrap (r4 - (15 : Int)))) (0 : Int)) (-18 : Int) (fun r15 => (0 ≤ (3 : Int)) ∧ (Hold (F_math_bits_RotateLeft32 k (List.getD r8 (Int.toNat (IntKind.i64.wrap (r4 - (2 : Int)))) (0 : Int)) (-17 : Int) (fun r16 => (Hold (F_math_bits_RotateLeft32 k (List.getD r8 (Int.toNat (IntKind.i64.wrap (r4 - (2 : Int)))) (0 : Int)) (-19 : Int) (fun r17 => (0 ≤ (10 : Int)) ∧ (0 ≤ (IntKind.i64.wrap (r4 - (16 : Int))) ∧ (IntKind.i64.wrap (r4 - (16 : Int))) < (64 : Int)) ∧ (0 ≤ (IntKind.i64.wrap (r4 - (7 : Int))) ∧ (IntKind.i64.wrap (r4 - (7 : Int))) < (64 : Int)) ∧ (0 ≤ r4 ∧ r4 < (64 : Int)) ∧ (Hold (C_sha_Hash_mix_11 k r4 r5 r6 r7 (List.set r8 (Int.toNat r4) (IntKind.u32.wrap ((IntKind.u32.wrap ((IntKind.u32.wrap ((List.getD r8 (Int.toNat (IntKind.i64.wrap (r4 - (16 : Int)))) (0 : Int)) + (ixor .u32 (ixor .u32 r14 r15) (ishr .u32 (List.getD r8 (Int.toNat (IntKind.i64.wrap (r4 - (15 : Int)))) (0 : Int)) (3 : Int))))) + (List.getD r8 (Int.toNat (IntKind.i64.wrap (r4 - (7 : Int)))) (0 : Int)))) + (ixor .u32 (ixor .u32 r16 r17) (ishr .u32 (List.getD r8 (Int.toNat (IntKind.i64.wrap (r4 - (2 : Int)))) (0 : Int)) (10 : Int)))))) K0))))))))))))))))) ((0 ≤ (0 : Int) ∧ (0 : Int) < (8 : Int)) ∧ (0 ≤ (1 : Int) ∧ (1 : Int) < (8 : Int)) ∧ (0 ≤ (2 : Int) ∧ (2 : Int) < (8 : Int)) ∧ (0 ≤ (3 : Int) ∧ (3 : Int) < (8 : Int)) ∧ (0 ≤ (4 : Int) ∧ (4 : Int) < (8 : Int)) ∧ (0 ≤ (5 : Int) ∧ (5 : Int) < (8 : Int)) ∧ (0 ≤ (6 : Int) ∧ (6 : Int) < (8 : Int)) ∧ (0 ≤ (7 : Int) ∧ (7 : Int) < (8 : Int)) ∧ (Hold (C_sha_Hash_mix_14 k (List.getD r5 (Int.toNat (0 : Int)) (0 : Int)) (List.getD r5 (Int.toNat (1 : Int)) (0 : Int)) (List.getD r5 (Int.toNat (2 : Int)) (0 : Int)) (List.getD r5 (Int.toNat (3 : Int)) (0 : Int)) (List.getD r5 (Int.toNat (4 : Int)) (0 : Int)) (List.getD r5 (Int.toNat (5 : Int)) (0 : Int)) (List.getD r5 (Int.toNat (6 : Int)) (0 : Int)) (List.getD r5 (Int.toNat (7 : Int)) (0 : Int)) r8 (0 : Int) r5 r6 r7 K0))))
end
def F_sha_Hash_mix (k : Nat) (r1 : (List Int)) (r2 : (List Int)) (r3 : Int) (K0 : (List Int) → (List Int) → Int → Prop) : Prop := match k with
  | 0 => False
  | k + 1 => (Hold (C_sha_Hash_mix_2 k (0 : Int) r1 r2 r3 (List.replicate 64 (0 : Int)) K0))
def C_sha_Hash_Write_3 : Nat → (List Int) → (List Int) → (List Int) → Int → (Int → (List Int) → (List Int) → Int → Prop) → Prop
  | 0, _, _, _, _, _ => False
  | k + 1, r5, r6, r7, r8, K0 => (cond (decide ((0 : Int) < ((List.length r5 : Nat) : Int))) (((64 : Int) ≠ 0) ∧ (0 ≤ (Int.tmod r8 (64 : Int)) ∧ (Int.tmod r8 (64 : Int)) ≤ (64 : Int) ∧ (64 : Int) ≤ (64 : Int)) ∧ (0 ≤ (((Nat.min (List.length r5) (Int.toNat ((64 : Int) - (Int.tmod r8 (64 : Int))))) : Nat) : Int) ∧ (((Nat.min (List.length r5) (Int.toNat ((64 : Int) - (Int.tmod r8 (64 : Int))))) : Nat) : Int) ≤ ((List.length r5 : Nat) : Int)) ∧ ((64 : Int) ≠ 0) ∧ (cond (decide ((Int.tmod (IntKind.i64.wrap (r8 + (((Nat.min (List.length r5) (Int.toNat ((64 : Int) - (Int.tmod r8 (64 : Int))))) : Nat) : Int))) (64 : Int)) = (0 : Int))) ((Hold (F_sha_Hash_mix k r6 (splice r7 (Int.toNat (Int.tmod r8 (64 : Int))) r5 (Nat.min (List.length r5) (Int.toNat ((64 : Int) - (Int.tmod r8 (64 : Int)))))) (IntKind.i64.wrap (r8 + (((Nat.min (List.length r5) (Int.toNat ((64 : Int) - (Int.tmod r8 (64 : Int))))) : Nat) : Int))) (fun r9 r10 r11 => (Hold (C_sha_Hash_Write_3 k (List.drop (Int.toNat (((Nat.min (List.length r5) (Int.toNat ((64 : Int) - (Int.tmod r8 (64 : Int))))) : Nat) : Int)) r5) r9 r10 r11 K0)))))) ((Hold (C_sha_Hash_Write_3 k (List.drop (Int.toNat (((Nat.min (List.length r5) (Int.toNat ((64 : Int) - (Int.tmod r8 (64 : Int))))) : Nat) : Int)) r5) r6 (splice r7 (Int.toNat (Int.tmod r8 (64 : Int))) r5 (Nat.min (List.length r5) (Int.toNat ((64 : Int) - (Int.tmod r8 (64 : Int)))))) (IntKind.i64.wrap (r8 + (((Nat.min (List.length r5) (Int.toNat ((64 : Int) - (Int.tmod r8 (64 : Int))))) : Nat) : Int))) K0))))) (K0 (0 : Int) r6 r7 r8))
def F_sha_Hash_Write (k : Nat) (r1 : (List Int)) (r2 : (List Int)) (r3 : (List Int)) (r4 : Int) (K0 : Int → (List Int) → (List Int) → Int → Prop) : Prop := match k with
  | 0 => False
  | k + 1 => (Hold (C_sha_Hash_Write_3 k r1 r2 r3 r4 K0))
def C_sha_Hash_Sum_15 : Nat → Int → (List Int) → (List Int) → Int → (List Int) → (List Int) → (List Int) → (List Int) → Int → ((List Int) → (List Int) → (List Int) → Int → Prop) → Prop
  | 0, _, _, _, _, _, _, _, _, _, _ => False
  | k + 1, r23, r24, r25, r26, r27, r28, r29, r30, r31, K0 => (cond (decide (r23 < (32 : Int))) (((4 : Int) ≠ 0) ∧ (0 ≤ (IntKind.i64.wrap (Int.tdiv r23 (4 : Int))) ∧ (IntKind.i64.wrap (Int.tdiv r23 (4 : Int))) < (8 : Int)) ∧ ((4 : Int) ≠ 0) ∧ (0 ≤ (IntKind.i64.wrap ((24 : Int) - (IntKind.i64.wrap ((8 : Int) * (Int.tmod r23 (4 : Int))))))) ∧ (0 ≤ r23 ∧ r23 < (32 : Int)) ∧ (Hold (C_sha_Hash_Sum_15 k (IntKind.i64.wrap (r23 + (1 : Int))) r24 r25 r26 r27 (List.set r28 (Int.toNat r23) (IntKind.u8.wrap (ishr .u32 (List.getD r29 (Int.toNat (IntKind.i64.wrap (Int.tdiv r23 (4 : Int)))) (0 : Int)) (IntKind.i64.wrap ((24 : Int) - (IntKind.i64.wrap ((8 : Int) * (Int.tmod r23 (4 : Int))))))))) r29 r30 r31 K0))) (K0 r28 r24 r25 r26))
def C_sha_Hash_Sum_9 : Nat → Int → Int → (List Int) → (List Int) → Int → (List Int) → (List Int) → (List Int) → (List Int) → Int → (List Int) → ((List Int) → (List Int) → (List Int) → Int → Prop) → Prop
  | 0, _, _, _, _, _, _, _, _, _, _, _, _ => False
  | k + 1, r8, r9, r10, r11, r12, r13, r14, r15, r16, r17, r18, K0 => (cond (decide (r9 < (8 : Int))) ((0 ≤ (IntKind.i64.wrap ((56 : Int) - (IntKind.i64.wrap ((8 : Int) * r9))))) ∧ (0 ≤ (IntKind.i64.wrap (r8 + r9)) ∧ (IntKind.i64.wrap (r8 + r9)) < (72 : Int)) ∧ (Hold (C_sha_Hash_Sum_9 k r8 (IntKind.i64.wrap (r9 + (1 : Int))) r10 r11 r12 r13 r14 r15 r16 r17 (List.set r18 (Int.toNat (IntKind.i64.wrap (r8 + r9))) (IntKind.u8.wrap (ishr .u64 (IntKind.u64.wrap ((IntKind.u64.wrap r12) * (8 : Int))) (IntKind.i64.wrap ((56 : Int) - (IntKind.i64.wrap ((8 : Int) * r9))))))) K0))) ((0 ≤ (0 : Int) ∧ (0 : Int) ≤ (IntKind.i64.wrap (r8 + (8 : Int))) ∧ (IntKind.i64.wrap (r8 + (8 : Int))) ≤ (72 : Int)) ∧ (Hold (F_sha_Hash_Write k (cut r18 (Int.toNat (0 : Int)) (Int.toNat ((IntKind.i64.wrap (r8 + (8 : Int))) - (0 : Int)))) r15 r16 r17 (fun r19 r20 r21 r22 => (Hold (C_sha_Hash_Sum_15 k (0 : Int) r10 r11 r12 r13 r14 r20 r21 r22 K0)))))))
def F_sha_Hash_Sum (k : Nat) (r1 : (List Int)) (r2 : (List Int)) (r3 : Int) (K0 : (List Int) → (List Int) → (List Int) → Int → Prop) : Prop := match k with
  | 0 => False
  | k + 1 => (Hold (F_sha_Hash_Write k [(128 : Int)] r1 r2 r3 (fun r4 r5 r6 r7 => ((64 : Int) ≠ 0) ∧ ((64 : Int) ≠ 0) ∧ (Hold (C_sha_Hash_Sum_9 k (Int.tmod (IntKind.i64.wrap ((120 : Int) - (Int.tmod r7 (64 : Int)))) (64 : Int)) (0 : Int) r1 r2 r3 (List.replicate 32 (0 : Int)) (List.replicate 32 (0 : Int)) r5 r6 r7 (List.replicate 72 (0 : Int)) K0)))))
def C_smt_short_4 : Nat → (List Int) → (List Int) → ((List Int) → Prop) → Prop
  | 0, _, _, _ => False
  | k + 1, r4, r5, K0 => K0 r5
def F_smt_short (k : Nat) (r1 : Int) (r2 : (List Int)) (K0 : (List Int) → Prop) : Prop := match k with
  | 0 => False
  | k + 1 => (Hold (F_smt_width k r1 (fun r3 => (cond r3 ((0 ≤ (0 : Int) ∧ (0 : Int) ≤ r1 ∧ r1 ≤ (32 : Int)) ∧ (0 ≤ (0 : Int) ∧ (0 : Int) ≤ (32 : Int) ∧ (32 : Int) ≤ (32 : Int)) ∧ (Hold (C_smt_short_4 k (List.replicate 32 (0 : Int)) (splice (List.replicate 32 (0 : Int)) (Int.toNat (0 : Int)) (cut r2 (Int.toNat (0 : Int)) (Int.toNat ((32 : Int) - (0 : Int)))) (Nat.min (List.length (cut r2 (Int.toNat (0 : Int)) (Int.toNat ((32 : Int) - (0 : Int))))) (Int.toNat (r1 - (0 : Int))))) K0))) ((Hold (C_smt_short_4 k (List.replicate 32 (0 : Int)) (List.replicate 32 (0 : Int)) K0)))))))
def C_smt_summed_4 : Nat → Int → (List (List Int)) → Int → Int → (List Int) → (List Int) → (List Int) → Int → ((List Int) → Prop) → Prop
  | 0, _, _, _, _, _, _, _, _, _ => False
  | k + 1, r11, r12, r13, r14, r15, r16, r17, r18, K0 => (cond (decide (r14 < r13)) ((0 ≤ r14 ∧ r14 < ((List.length r12 : Nat) : Int)) ∧ (0 ≤ (0 : Int) ∧ (0 : Int) ≤ (32 : Int) ∧ (32 : Int) ≤ (32 : Int)) ∧ (Hold (F_sha_Hash_Write k (cut (List.getD r12 (Int.toNat r14) (List.replicate 32 (0 : Int))) (Int.toNat (0 : Int)) (Int.toNat ((32 : Int) - (0 : Int)))) r16 r17 r18 (fun r19 r20 r21 r22 => (Hold (C_smt_summed_4 k r11 r12 r13 (IntKind.i64.wrap (r14 + (1 : Int))) r15 r20 r21 r22 K0)))))) ((Hold (F_sha_Hash_Sum k r16 r17 r18 (fun r23 r24 r25 r26 => (Hold (F_smt_short k r11 r23 (fun r27 => K0 r27))))))))
def F_smt_summed (k : Nat) (r1 : Int) (r2 : Int) (r3 : (List (List Int))) (K0 : (List Int) → Prop) : Prop := match k with
  | 0 => False
  | k + 1 => (Hold (F_sha_New k (fun r4 r5 r6 => (Hold (F_sha_Hash_Write k [r2] r4 r5 r6 (fun r7 r8 r9 r10 => (Hold (C_smt_summed_4 k r1 r3 ((List.length r3 : Nat) : Int) (0 : Int) (List.replicate 32 (0 : Int)) r8 r9 r10 K0))))))))
def F_smt_Node (k : Nat) (r1 : Int) (r2 : (List Int)) (r3 : (List Int)) (K0 : (List Int) → Prop) : Prop := match k with
  | 0 => False
  | k + 1 => (Hold (F_smt_summed k r1 (1 : Int) [r2, r3] (fun r4 => K0 r4)))
def F_smt_Leaf (k : Nat) (r1 : Int) (r2 : (List Int)) (r3 : (List Int)) (K0 : (List Int) → Prop) : Prop := match k with
  | 0 => False
  | k + 1 => (Hold (F_smt_summed k r1 (0 : Int) [r2, r3] (fun r4 => K0 r4)))
def F_smt_knot_digest (k : Nat) (r1 : (KT S_api_Leaf)) (r2 : Int) (K0 : (List Int) → Prop) : Prop := match k with
  | 0 => False
  | k + 1 => (digBound r1 ≤ k ∧ (0 ≤ r2 ∧ r2 ≤ 32) ∧ allG r2 r1) ∧ K0 (digT r2 r1)
def F_smt_knot_digest_1 (k : Nat) (r1 : Int) (r2 : Int) (r3 : Int) (r4 : Int) (r5 : (List Int)) (r6 : (List Int)) (r7 : (List Int)) (r8 : (KT S_api_Leaf)) (r9 : (KT S_api_Leaf)) (K0 : Int → Int → Int → Int → (List Int) → (List Int) → (List Int) → (KT S_api_Leaf) → (KT S_api_Leaf) → Prop) : Prop := match k with
  | 0 => False
  | k + 1 => (Hold (F_smt_knot_inner_s1 k r2 r3 r4 r5 r6 r7 r8 r9 (fun r10 r11 r12 r13 r14 r15 r16 r17 r18 => (cond r10 ((Hold (F_smt_knot_digest k r17 r1 (fun r19 => (Hold (F_smt_knot_digest k r18 r1 (fun r20 => (Hold (F_smt_Node k r1 r19 r20 (fun r21 => K0 r1 r11 r12 r13 r21 r15 r16 r17 r18)))))))))) ((Hold (F_smt_Leaf k r1 r15 r16 (fun r22 => K0 r1 r11 r12 r13 r22 r15 r16 r17 r18))))))))
def F_smt_Empty (k : Nat) (r1 : Int) (K0 : (List Int) → Prop) : Prop := match k with
  | 0 => False
  | k + 1 => (Hold (F_smt_summed k r1 (2 : Int) [] (fun r2 => K0 r2)))
def F_smt_Tree_Root (k : Nat) (r1 : Int) (r2 : Int) (r3 : (KT S_api_Leaf)) (K0 : (List Int) → Int → Int → (KT S_api_Leaf) → Prop) : Prop := match k with
  | 0 => False
  | k + 1 => (Hold (F_smt_knot_digest k r3 r1 (fun r4 => K0 r4 r1 r2 r3)))
def C_l05_grows_2 : Nat → Int → (Bool → Prop) → Prop
  | 0, _, _ => False
  | k + 1, r2, K0 => K0 false
def C_l05_grows_2_1 : Nat → Int → Int → Int → (KT S_api_Leaf) → (Bool → Prop) → Prop
  | 0, _, _, _, _, _ => False
  | k + 1, r7, r8, r9, r10, K0 => (cond (!decide (r7 = (0 : Int))) (K0 false) ((Hold (F_l05_a k (fun r11 r12 => (Hold (F_l05_b k (fun r13 r14 => (Hold (F_smt_Tree_Set k r8 r9 r10 [(S_api_Leaf.mk r11 r12), (S_api_Leaf.mk r13 r14)] (fun r15 r16 r17 r18 r19 => (Hold (F_l05_b k (fun r20 r21 => (Hold (F_smt_Tree_Drop k r20 r16 r17 r18 (fun r22 r23 r24 r25 => (Hold (F_l05_b k (fun r26 r27 => (Hold (F_smt_Tree_Get k r26 r23 r24 r25 (fun r28 r29 r30 r31 r32 => (cond (decide (r15 = (0 : Int))) ((cond r22 ((cond (!r29) ((Hold (F_smt_Tree_Len k r30 r31 r32 (fun r33 r34 r35 r36 => (cond (decide (r33 = (1 : Int))) ((Hold (F_smt_Tree_Root k r34 r35 r36 (fun r37 r38 r39 r40 => (Hold (F_l05_a k (fun r41 r42 => (Hold (F_smt_Leaf k (32 : Int) r41 r42 (fun r43 => K0 (decide (r37 = r43)))))))))))) (K0 false)))))) (K0 false))) (K0 false))) (K0 false)))))))))))))))))))))))))
def F_l05_grows (k : Nat)  (K0 : Bool → Prop) : Prop := match k with
  | 0 => False
  | k + 1 => (Hold (F_smt_New k (32 : Int) (fun r1 => (Hold (C_l05_grows_2 k r1 K0))) (fun r3 r4 r5 r6 => (Hold (C_l05_grows_2_1 k r3 r4 r5 r6 K0)))))
def F_r05_Width (k : Nat) (r1 : Int) (K0 : Bool → Prop) : Prop := match k with
  | 0 => False
  | k + 1 => (cond (decide ((0 : Int) ≤ r1)) (K0 (decide (r1 ≤ (32 : Int)))) (K0 false))
def F_l05_own (k : Nat) (r1 : (List S_api_Leaf)) (K0 : (List S_api_Leaf) → Prop) : Prop := match k with
  | 0 => False
  | k + 1 => (room (List.length r1) 64) ∧ K0 r1
mutual
def C_r05_Twice_5 : Nat → (List S_api_Leaf) → Int → Int → (Bool → Prop) → Prop
  | 0, _, _, _, _ => False
  | k + 1, r4, r5, r6, K0 => (cond (decide (r6 < r5)) ((0 ≤ r5 ∧ r5 < ((List.length r4 : Nat) : Int)) ∧ (0 ≤ r6 ∧ r6 < ((List.length r4 : Nat) : Int)) ∧ (cond (decide ((List.getD r4 (Int.toNat r5) (S_api_Leaf.mk (List.replicate 32 (0 : Int)) (List.replicate 32 (0 : Int)))).f0 = (List.getD r4 (Int.toNat r6) (S_api_Leaf.mk (List.replicate 32 (0 : Int)) (List.replicate 32 (0 : Int)))).f0)) (K0 true) ((Hold (C_r05_Twice_5 k r4 r5 (IntKind.i64.wrap (r6 + (1 : Int))) K0))))) ((Hold (C_r05_Twice_2 k r4 (IntKind.i64.wrap (r5 + (1 : Int))) K0))))
def C_r05_Twice_2 : Nat → (List S_api_Leaf) → Int → (Bool → Prop) → Prop
  | 0, _, _, _ => False
  | k + 1, r2, r3, K0 => (cond (decide (r3 < ((List.length r2 : Nat) : Int))) ((Hold (C_r05_Twice_5 k r2 r3 (0 : Int) K0))) (K0 false))
end
def F_r05_Twice (k : Nat) (r1 : (List S_api_Leaf)) (K0 : Bool → Prop) : Prop := match k with
  | 0 => False
  | k + 1 => (Hold (C_r05_Twice_2 k r1 (0 : Int) K0))
mutual
def C_r05_Drop_4 : Nat → (List S_api_Leaf) → Int → (List Int) → (List S_api_Leaf) → ((List S_api_Leaf) → Bool → Prop) → Prop
  | 0, _, _, _, _, _ => False
  | k + 1, r7, r8, r9, r10, K0 => (Hold (C_r05_Drop_3 k r7 (IntKind.i64.wrap (r8 + (1 : Int))) r9 r10 K0))
def C_r05_Drop_3 : Nat → (List S_api_Leaf) → Int → (List Int) → (List S_api_Leaf) → ((List S_api_Leaf) → Bool → Prop) → Prop
  | 0, _, _, _, _, _ => False
  | k + 1, r3, r4, r5, r6, K0 => (cond (decide (r4 < ((List.length r3 : Nat) : Int))) ((0 ≤ r4 ∧ r4 < ((List.length r3 : Nat) : Int)) ∧ (cond (!(decide ((List.getD r3 (Int.toNat r4) (S_api_Leaf.mk (List.replicate 32 (0 : Int)) (List.replicate 32 (0 : Int)))).f0 = r5))) ((0 ≤ r4 ∧ r4 < ((List.length r3 : Nat) : Int)) ∧ (room (List.length r6 + List.length [(S_api_Leaf.mk (List.getD r3 (Int.toNat r4) (S_api_Leaf.mk (List.replicate 32 (0 : Int)) (List.replicate 32 (0 : Int)))).f0 (List.getD r3 (Int.toNat r4) (S_api_Leaf.mk (List.replicate 32 (0 : Int)) (List.replicate 32 (0 : Int)))).f1)]) 64) ∧ (Hold (C_r05_Drop_4 k r3 r4 r5 (r6 ++ [(S_api_Leaf.mk (List.getD r3 (Int.toNat r4) (S_api_Leaf.mk (List.replicate 32 (0 : Int)) (List.replicate 32 (0 : Int)))).f0 (List.getD r3 (Int.toNat r4) (S_api_Leaf.mk (List.replicate 32 (0 : Int)) (List.replicate 32 (0 : Int)))).f1)]) K0))) ((Hold (C_r05_Drop_4 k r3 r4 r5 r6 K0))))) (K0 r6 (decide (((List.length r6 : Nat) : Int) < ((List.length r3 : Nat) : Int)))))
end
def F_r05_Drop (k : Nat) (r1 : (List S_api_Leaf)) (r2 : (List Int)) (K0 : (List S_api_Leaf) → Bool → Prop) : Prop := match k with
  | 0 => False
  | k + 1 => (Hold (C_r05_Drop_3 k r1 (0 : Int) r2 [] K0))
mutual
def C_r05_Set_9_1 : Nat → (List S_api_Leaf) → (List S_api_Leaf) → Int → (List S_api_Leaf) → ((List S_api_Leaf) → Int → Prop) → ((List S_api_Leaf) → Int → Prop) → Prop
  | 0, _, _, _, _, _, _ => False
  | k + 1, r22, r23, r24, r25, K0, K1 => (0 ≤ r24 ∧ r24 < ((List.length r23 : Nat) : Int)) ∧ (Hold (F_r05_Drop k r25 (List.getD r23 (Int.toNat r24) (S_api_Leaf.mk (List.replicate 32 (0 : Int)) (List.replicate 32 (0 : Int)))).f0 (fun r26 r27 => (Hold (C_r05_Set_10 k r22 r23 r24 r26 K0 K1)))))
def C_r05_Set_7_1 : Nat → (List S_api_Leaf) → (List S_api_Leaf) → Int → (List S_api_Leaf) → ((List S_api_Leaf) → Int → Prop) → ((List S_api_Leaf) → Int → Prop) → Prop
  | 0, _, _, _, _, _, _ => False
  | k + 1, r18, r19, r20, r21, K0, K1 => (cond (decide (r20 < ((List.length r19 : Nat) : Int))) ((Hold (C_r05_Set_9_1 k r18 r19 r20 r21 K0 K1))) ((cond (decide ((4096 : Int) < ((List.length r21 : Nat) : Int))) (K0 r18 (2 : Int)) (K1 r21 (0 : Int)))))
def C_r05_Set_10 : Nat → (List S_api_Leaf) → (List S_api_Leaf) → Int → (List S_api_Leaf) → ((List S_api_Leaf) → Int → Prop) → ((List S_api_Leaf) → Int → Prop) → Prop
  | 0, _, _, _, _, _, _ => False
  | k + 1, r14, r15, r16, r17, K0, K1 => (0 ≤ r16 ∧ r16 < ((List.length r15 : Nat) : Int)) ∧ (room (List.length r17 + List.length [(S_api_Leaf.mk (List.getD r15 (Int.toNat r16) (S_api_Leaf.mk (List.replicate 32 (0 : Int)) (List.replicate 32 (0 : Int)))).f0 (List.getD r15 (Int.toNat r16) (S_api_Leaf.mk (List.replicate 32 (0 : Int)) (List.replicate 32 (0 : Int)))).f1)]) 64) ∧ (Hold (C_r05_Set_7_1 k r14 r15 (IntKind.i64.wrap (r16 + (1 : Int))) (r17 ++ [(S_api_Leaf.mk (List.getD r15 (Int.toNat r16) (S_api_Leaf.mk (List.replicate 32 (0 : Int)) (List.replicate 32 (0 : Int)))).f0 (List.getD r15 (Int.toNat r16) (S_api_Leaf.mk (List.replicate 32 (0 : Int)) (List.replicate 32 (0 : Int)))).f1)]) K0 K1))
end
def C_r05_Set_9 : Nat → (List S_api_Leaf) → (List S_api_Leaf) → (List S_api_Leaf) → Int → ((List S_api_Leaf) → Int → Prop) → ((List S_api_Leaf) → Int → Prop) → Prop
  | 0, _, _, _, _, _, _ => False
  | k + 1, r8, r9, r10, r11, K0, K1 => (0 ≤ r11 ∧ r11 < ((List.length r9 : Nat) : Int)) ∧ (Hold (F_r05_Drop k r10 (List.getD r9 (Int.toNat r11) (S_api_Leaf.mk (List.replicate 32 (0 : Int)) (List.replicate 32 (0 : Int)))).f0 (fun r12 r13 => (Hold (C_r05_Set_10 k r8 r9 r11 r12 K0 K1)))))
def C_r05_Set_7 : Nat → (List S_api_Leaf) → (List S_api_Leaf) → (List S_api_Leaf) → Int → ((List S_api_Leaf) → Int → Prop) → ((List S_api_Leaf) → Int → Prop) → Prop
  | 0, _, _, _, _, _, _ => False
  | k + 1, r4, r5, r6, r7, K0, K1 => (cond (decide (r7 < ((List.length r5 : Nat) : Int))) ((Hold (C_r05_Set_9 k r4 r5 r6 r7 K0 K1))) ((cond (decide ((4096 : Int) < ((List.length r6 : Nat) : Int))) (K0 r4 (2 : Int)) (K0 r6 (0 : Int)))))
def F_r05_Set (k : Nat) (r1 : (List S_api_Leaf)) (r2 : (List S_api_Leaf)) (K0 : (List S_api_Leaf) → Int → Prop) (K1 : (List S_api_Leaf) → Int → Prop) : Prop := match k with
  | 0 => False
  | k + 1 => (cond (decide ((4096 : Int) < ((List.length r2 : Nat) : Int))) (K0 r1 (2 : Int)) ((Hold (F_r05_Twice k r2 (fun r3 => (cond r3 (K0 r1 (30 : Int)) ((Hold (C_r05_Set_7 k r1 r2 r1 (0 : Int) K0 K1)))))))))
mutual
def C_smt_Tree_Set_14_1 : Nat → (KT S_api_Leaf) → Int → (List S_api_Leaf) → Int → Int → Int → Int → (KT S_api_Leaf) → (List Int) → (List Int) → (Int → Int → Int → (KT S_api_Leaf) → Prop) → Prop
  | 0, _, _, _, _, _, _, _, _, _, _, _ => False
  | k + 1, r19, r20, r21, r22, r23, r24, r25, r26, r27, r28, K1 => (Hold (F_smt_knot_with k r19 r27 r28 (0 : Int) (fun r29 => (Hold (C_smt_Tree_Set_9_1 k r29 r20 r21 r22 (IntKind.i64.wrap (r23 + (1 : Int))) r24 r25 r26 K1)))))
def C_smt_Tree_Set_9_1 : Nat → (KT S_api_Leaf) → Int → (List S_api_Leaf) → Int → Int → Int → Int → (KT S_api_Leaf) → (Int → Int → Int → (KT S_api_Leaf) → Prop) → Prop
  | 0, _, _, _, _, _, _, _, _, _ => False
  | k + 1, r6, r7, r8, r9, r10, r11, r12, r13, K1 => (cond (decide (r10 < r9)) ((0 ≤ r10 ∧ r10 < ((List.length r8 : Nat) : Int)) ∧ (Hold (F_smt_Tree_Get k (List.getD r8 (Int.toNat r10) (S_api_Leaf.mk (List.replicate 32 (0 : Int)) (List.replicate 32 (0 : Int)))).f0 r11 r12 r13 (fun r14 r15 r16 r17 r18 => (cond (!r15) ((Hold (C_smt_Tree_Set_14_1 k r6 (IntKind.i64.wrap (r7 + (1 : Int))) r8 r9 r10 r16 r17 r18 (List.getD r8 (Int.toNat r10) (S_api_Leaf.mk (List.replicate 32 (0 : Int)) (List.replicate 32 (0 : Int)))).f0 (List.getD r8 (Int.toNat r10) (S_api_Leaf.mk (List.replicate 32 (0 : Int)) (List.replicate 32 (0 : Int)))).f1 K1))) ((Hold (C_smt_Tree_Set_14_1 k r6 r7 r8 r9 r10 r16 r17 r18 (List.getD r8 (Int.toNat r10) (S_api_Leaf.mk (List.replicate 32 (0 : Int)) (List.replicate 32 (0 : Int)))).f0 (List.getD r8 (Int.toNat r10) (S_api_Leaf.mk (List.replicate 32 (0 : Int)) (List.replicate 32 (0 : Int)))).f1 K1)))))))) ((cond (decide ((4096 : Int) < r7)) (K1 (2 : Int) r11 r12 r13) (K1 (0 : Int) r11 r7 r6))))
end
def F_smt_Tree_Set_s1 (k : Nat) (r1 : (List S_api_Leaf)) (r2 : Int) (r3 : Int) (r4 : (KT S_api_Leaf)) (K1 : Int → Int → Int → (KT S_api_Leaf) → Prop) : Prop := match k with
  | 0 => False
  | k + 1 => (cond (decide ((4096 : Int) < ((List.length r1 : Nat) : Int))) (K1 (2 : Int) r2 r3 r4) ((Hold (F_smt_twice k r1 (fun r5 => (cond r5 (K1 (30 : Int) r2 r3 r4) ((Hold (C_smt_Tree_Set_9_1 k r4 r3 r1 ((List.length r1 : Nat) : Int) (0 : Int) r2 r3 r4 K1)))))))))
def C_r05_Same_4 : Nat → (List S_api_Leaf) → (List S_api_Leaf) → Int → (Bool → Prop) → Prop
  | 0, _, _, _, _ => False
  | k + 1, r3, r4, r5, K0 => (cond (decide (r5 < ((List.length r3 : Nat) : Int))) ((0 ≤ r5 ∧ r5 < ((List.length r3 : Nat) : Int)) ∧ (0 ≤ r5 ∧ r5 < ((List.length r4 : Nat) : Int)) ∧ (cond (!((decide ((List.getD r3 (Int.toNat r5) (S_api_Leaf.mk (List.replicate 32 (0 : Int)) (List.replicate 32 (0 : Int)))).f0 = (List.getD r4 (Int.toNat r5) (S_api_Leaf.mk (List.replicate 32 (0 : Int)) (List.replicate 32 (0 : Int)))).f0)) && ((decide ((List.getD r3 (Int.toNat r5) (S_api_Leaf.mk (List.replicate 32 (0 : Int)) (List.replicate 32 (0 : Int)))).f1 = (List.getD r4 (Int.toNat r5) (S_api_Leaf.mk (List.replicate 32 (0 : Int)) (List.replicate 32 (0 : Int)))).f1)) && true))) (K0 false) ((Hold (C_r05_Same_4 k r3 r4 (IntKind.i64.wrap (r5 + (1 : Int))) K0))))) (K0 true))
def F_r05_Same (k : Nat) (r1 : (List S_api_Leaf)) (r2 : (List S_api_Leaf)) (K0 : Bool → Prop) : Prop := match k with
  | 0 => False
  | k + 1 => (cond (!decide (((List.length r1 : Nat) : Int) = ((List.length r2 : Nat) : Int))) (K0 false) ((Hold (C_r05_Same_4 k r1 r2 (0 : Int) K0))))
def F_l05_same (k : Nat) (r1 : (List S_api_Leaf)) (r2 : (List S_api_Leaf)) (K0 : Bool → Prop) : Prop := match k with
  | 0 => False
  | k + 1 => (Hold (F_r05_Same k r1 r2 (fun r3 => K0 r3)))
def F_smt_Tree_Leaves_1 (k : Nat) (r1 : (List Int)) (r2 : (List Int)) (r3 : (List S_api_Leaf)) (K0 : (List S_api_Leaf) → Prop) : Prop := match k with
  | 0 => False
  | k + 1 => (room (List.length r3 + List.length [(S_api_Leaf.mk r1 r2)]) 64) ∧ K0 (r3 ++ [(S_api_Leaf.mk r1 r2)])
def F_smt_knot_each : Nat → (KT S_api_Leaf) → (List S_api_Leaf) → ((List S_api_Leaf) → Prop) → ((List S_api_Leaf) → Prop) → Prop
  | 0, _, _, _, _ => False
  | k + 1, r1, r2, K0, K1 => (Hold (F_smt_knot_inner k r1 (fun r3 => (cond r3 ((KT.isNil r1 = false) ∧ (KT.isNil r1 = false) ∧ (Hold (F_smt_knot_each k (KT.lt r1) r2 (fun r4 => (KT.isNil r1 = false) ∧ (KT.isNil r1 = false) ∧ (Hold (F_smt_knot_each k (KT.rt r1) r4 (fun r5 => K0 r5) (fun r6 => K0 r6)))) (fun r7 => (KT.isNil r1 = false) ∧ (KT.isNil r1 = false) ∧ (Hold (F_smt_knot_each k (KT.rt r1) r7 (fun r8 => K0 r8) (fun r9 => K1 r9))))))) ((cond (!(KT.isNil r1)) ((KT.isNil r1 = false) ∧ (KT.isNil r1 = false) ∧ (Hold (F_smt_Tree_Leaves_1 k (KT.lf (S_api_Leaf.mk (List.replicate 32 (0 : Int)) (List.replicate 32 (0 : Int))) r1).f0 (KT.lf (S_api_Leaf.mk (List.replicate 32 (0 : Int)) (List.replicate 32 (0 : Int))) r1).f1 r2 (fun r10 => K0 r10)))) (K1 r2)))))))
def F_smt_Tree_Leaves (k : Nat) (r1 : Int) (r2 : Int) (r3 : (KT S_api_Leaf)) (K0 : Int → Int → (KT S_api_Leaf) → (List S_api_Leaf) → Prop) : Prop := match k with
  | 0 => False
  | k + 1 => (Hold (F_smt_knot_each k r3 [] (fun r4 => K0 r1 r2 r3 r4) (fun r5 => K0 r1 r2 r3 r5)))
def C_r04_weight_3 : Nat → Int → Int → Int → (Int → Prop) → Prop
  | 0, _, _, _, _ => False
  | k + 1, r2, r3, r4, K0 => ((8 : Int) ≠ 0) ∧ (cond (decide (r4 < (Int.tmod r2 (8 : Int)))) (((2 : Int) ≠ 0) ∧ (Hold (C_r04_weight_3 k r2 (IntKind.i64.wrap (Int.tdiv r3 (2 : Int))) (IntKind.i64.wrap (r4 + (1 : Int))) K0))) (K0 r3))
def F_r04_weight (k : Nat) (r1 : Int) (K0 : Int → Prop) : Prop := match k with
  | 0 => False
  | k + 1 => (Hold (C_r04_weight_3 k r1 (128 : Int) (0 : Int) K0))
def F_r04_At (k : Nat) (r1 : (List Int)) (r2 : Int) (K0 : Int → Prop) : Prop := match k with
  | 0 => False
  | k + 1 => ((8 : Int) ≠ 0) ∧ (0 ≤ (IntKind.i64.wrap (Int.tdiv r2 (8 : Int))) ∧ (IntKind.i64.wrap (Int.tdiv r2 (8 : Int))) < (32 : Int)) ∧ (Hold (F_r04_weight k r2 (fun r3 => (r3 ≠ 0) ∧ ((2 : Int) ≠ 0) ∧ K0 (Int.tmod (IntKind.i64.wrap (Int.tdiv (IntKind.i64.wrap (List.getD r1 (Int.toNat (IntKind.i64.wrap (Int.tdiv r2 (8 : Int)))) (0 : Int))) r3)) (2 : Int)))))
def C_r04_Common_2 : Nat → Int → (List Int) → (List Int) → (Int → Prop) → Prop
  | 0, _, _, _, _ => False
  | k + 1, r3, r4, r5, K0 => (cond (decide (r3 < (256 : Int))) ((Hold (F_r04_At k r4 r3 (fun r6 => (Hold (F_r04_At k r5 r3 (fun r7 => (cond (decide (r6 = r7)) ((Hold (C_r04_Common_2 k (IntKind.i64.wrap (r3 + (1 : Int))) r4 r5 K0))) (K0 r3))))))))) (K0 r3))
def F_r04_Common (k : Nat) (r1 : (List Int)) (r2 : (List Int)) (K0 : Int → Prop) : Prop := match k with
  | 0 => False
  | k + 1 => (Hold (C_r04_Common_2 k (0 : Int) r1 r2 K0))
def F_r04_Less (k : Nat) (r1 : (List Int)) (r2 : (List Int)) (K0 : Bool → Prop) : Prop := match k with
  | 0 => False
  | k + 1 => (Hold (F_r04_Common k r1 r2 (fun r3 => (cond (decide (r3 < (256 : Int))) ((Hold (F_r04_At k r1 r3 (fun r4 => K0 (decide (r4 = (0 : Int))))))) (K0 false)))))
mutual
def C_r05_Sorted_9 : Nat → (List S_api_Leaf) → Int → Int → (List S_api_Leaf) → (List S_api_Leaf) → ((List S_api_Leaf) → Prop) → Prop
  | 0, _, _, _, _, _, _ => False
  | k + 1, r10, r11, r12, r13, r14, K0 => (0 ≤ (0 : Int) ∧ (0 : Int) ≤ r12 ∧ r12 ≤ ((List.length r13 : Nat) : Int)) ∧ (room (List.length r14 + List.length (cut r13 (Int.toNat (0 : Int)) (Int.toNat (r12 - (0 : Int))))) 64) ∧ (0 ≤ r11 ∧ r11 < ((List.length r10 : Nat) : Int)) ∧ (room (List.length (r14 ++ (cut r13 (Int.toNat (0 : Int)) (Int.toNat (r12 - (0 : Int))))) + List.length [(S_api_Leaf.mk (List.getD r10 (Int.toNat r11) (S_api_Leaf.mk (List.replicate 32 (0 : Int)) (List.replicate 32 (0 : Int)))).f0 (List.getD r10 (Int.toNat r11) (S_api_Leaf.mk (List.replicate 32 (0 : Int)) (List.replicate 32 (0 : Int)))).f1)]) 64) ∧ (0 ≤ r12 ∧ r12 ≤ ((List.length r13 : Nat) : Int) ∧ ((List.length r13 : Nat) : Int) ≤ ((List.length r13 : Nat) : Int)) ∧ (room (List.length ((r14 ++ (cut r13 (Int.toNat (0 : Int)) (Int.toNat (r12 - (0 : Int))))) ++ [(S_api_Leaf.mk (List.getD r10 (Int.toNat r11) (S_api_Leaf.mk (List.replicate 32 (0 : Int)) (List.replicate 32 (0 : Int)))).f0 (List.getD r10 (Int.toNat r11) (S_api_Leaf.mk (List.replicate 32 (0 : Int)) (List.replicate 32 (0 : Int)))).f1)]) + List.length (cut r13 (Int.toNat r12) (Int.toNat (((List.length r13 : Nat) : Int) - r12)))) 64) ∧ (Hold (C_r05_Sorted_3 k r10 (IntKind.i64.wrap (r11 + (1 : Int))) (((r14 ++ (cut r13 (Int.toNat (0 : Int)) (Int.toNat (r12 - (0 : Int))))) ++ [(S_api_Leaf.mk (List.getD r10 (Int.toNat r11) (S_api_Leaf.mk (List.replicate 32 (0 : Int)) (List.replicate 32 (0 : Int)))).f0 (List.getD r10 (Int.toNat r11) (S_api_Leaf.mk (List.replicate 32 (0 : Int)) (List.replicate 32 (0 : Int)))).f1)]) ++ (cut r13 (Int.toNat r12) (Int.toNat (((List.length r13 : Nat) : Int) - r12)))) K0))
def C_r05_Sorted_6 : Nat → (List S_api_Leaf) → Int → Int → (List S_api_Leaf) → ((List S_api_Leaf) → Prop) → Prop
  | 0, _, _, _, _, _ => False
  | k + 1, r5, r6, r7, r8, K0 => (cond (decide (r7 < ((List.length r8 : Nat) : Int))) ((0 ≤ r6 ∧ r6 < ((List.length r5 : Nat) : Int)) ∧ (0 ≤ r7 ∧ r7 < ((List.length r8 : Nat) : Int)) ∧ (Hold (F_r04_Less k (List.getD r5 (Int.toNat r6) (S_api_Leaf.mk (List.replicate 32 (0 : Int)) (List.replicate 32 (0 : Int)))).f0 (List.getD r8 (Int.toNat r7) (S_api_Leaf.mk (List.replicate 32 (0 : Int)) (List.replicate 32 (0 : Int)))).f0 (fun r9 => (cond (!r9) ((Hold (C_r05_Sorted_6 k r5 r6 (IntKind.i64.wrap (r7 + (1 : Int))) r8 K0))) ((Hold (C_r05_Sorted_9 k r5 r6 r7 r8 [] K0)))))))) ((Hold (C_r05_Sorted_9 k r5 r6 r7 r8 [] K0))))
def C_r05_Sorted_3 : Nat → (List S_api_Leaf) → Int → (List S_api_Leaf) → ((List S_api_Leaf) → Prop) → Prop
  | 0, _, _, _, _ => False
  | k + 1, r2, r3, r4, K0 => (cond (decide (r3 < ((List.length r2 : Nat) : Int))) ((Hold (C_r05_Sorted_6 k r2 r3 (0 : Int) r4 K0))) (K0 r4))
end
def F_r05_Sorted (k : Nat) (r1 : (List S_api_Leaf)) (K0 : (List S_api_Leaf) → Prop) : Prop := match k with
  | 0 => False
  | k + 1 => (Hold (C_r05_Sorted_3 k r1 (0 : Int) [] K0))
def C_r02_Padded_8 : Nat → Int → Int → (List Int) → ((List Int) → Prop) → Prop
  | 0, _, _, _, _ => False
  | k + 1, r4, r5, r6, K0 => (cond (decide ((0 : Int) ≤ r5)) ((0 ≤ (IntKind.i64.wrap ((8 : Int) * r5))) ∧ (room (List.length r6 + List.length [(IntKind.u8.wrap (ishr .u64 r4 (IntKind.i64.wrap ((8 : Int) * r5))))]) 1) ∧ (Hold (C_r02_Padded_8 k r4 (IntKind.i64.wrap (r5 - (1 : Int))) (r6 ++ [(IntKind.u8.wrap (ishr .u64 r4 (IntKind.i64.wrap ((8 : Int) * r5))))]) K0))) (K0 r6))
def C_r02_Padded_4 : Nat → (List Int) → (List Int) → ((List Int) → Prop) → Prop
  | 0, _, _, _ => False
  | k + 1, r2, r3, K0 => ((64 : Int) ≠ 0) ∧ (cond (!decide ((Int.tmod ((List.length r3 : Nat) : Int) (64 : Int)) = (56 : Int))) ((room (List.length r3 + List.length [(0 : Int)]) 1) ∧ (Hold (C_r02_Padded_4 k r2 (r3 ++ [(0 : Int)]) K0))) ((Hold (C_r02_Padded_8 k (IntKind.u64.wrap ((IntKind.u64.wrap ((List.length r2 : Nat) : Int)) * (8 : Int))) (7 : Int) r3 K0))))
def F_r02_Padded (k : Nat) (r1 : (List Int)) (K0 : (List Int) → Prop) : Prop := match k with
  | 0 => False
  | k + 1 => (room (List.length r1) 1) ∧ (room (List.length r1 + List.length [(128 : Int)]) 1) ∧ (Hold (C_r02_Padded_4 k r1 (r1 ++ [(128 : Int)]) K0))
def F_r02_begin (k : Nat)  (K0 : (List Int) → Prop) : Prop := match k with
  | 0 => False
  | k + 1 => K0 [(1779033703 : Int), (3144134277 : Int), (1013904242 : Int), (2773480762 : Int), (1359893119 : Int), (2600822924 : Int), (528734635 : Int), (1541459225 : Int)]
def F_r02_turned (k : Nat) (r1 : Int) (r2 : Int) (K0 : Int → Prop) : Prop := match k with
  | 0 => False
  | k + 1 => (0 ≤ r2) ∧ (0 ≤ (IntKind.i64.wrap ((32 : Int) - r2))) ∧ K0 (ior .u32 (ishr .u32 r1 r2) (ishl .u32 r1 (IntKind.i64.wrap ((32 : Int) - r2))))
def C_r02_block_22 : Nat → Int → (List Int) → (List Int) → (List Int) → ((List Int) → Prop) → Prop
  | 0, _, _, _, _, _ => False
  | k + 1, r27, r28, r29, r30, K0 => (cond (decide (r27 < (8 : Int))) ((0 ≤ r27 ∧ r27 < (8 : Int)) ∧ (0 ≤ r27 ∧ r27 < (8 : Int)) ∧ (0 ≤ r27 ∧ r27 < (8 : Int)) ∧ (Hold (C_r02_block_22 k (IntKind.i64.wrap (r27 + (1 : Int))) (List.set r28 (Int.toNat r27) (IntKind.u32.wrap ((List.getD r28 (Int.toNat r27) (0 : Int)) + (List.getD r30 (Int.toNat r27) (0 : Int))))) r29 r30 K0))) (K0 r28))
def C_r02_block_14 : Nat → Int → (List Int) → (List Int) → (List Int) → (List Int) → ((List Int) → Prop) → Prop
  | 0, _, _, _, _, _, _ => False
  | k + 1, r16, r17, r18, r19, r20, K0 => (cond (decide (r16 < (64 : Int))) ((0 ≤ (4 : Int) ∧ (4 : Int) < (8 : Int)) ∧ (0 ≤ (4 : Int) ∧ (4 : Int) < (8 : Int)) ∧ (0 ≤ (4 : Int) ∧ (4 : Int) < (8 : Int)) ∧ (Hold (F_r02_turned k (List.getD r20 (Int.toNat (4 : Int)) (0 : Int)) (6 : Int) (fun r21 => (Hold (F_r02_turned k (List.getD r20 (Int.toNat (4 : Int)) (0 : Int)) (11 : Int) (fun r22 => (Hold (F_r02_turned k (List.getD r20 (Int.toNat (4 : Int)) (0 : Int)) (25 : Int) (fun r23 => (0 ≤ (0 : Int) ∧ (0 : Int) < (8 : Int)) ∧ (0 ≤ (0 : Int) ∧ (0 : Int) < (8 : Int)) ∧ (0 ≤ (0 : Int) ∧ (0 : Int) < (8 : Int)) ∧ (Hold (F_r02_turned k (List.getD r20 (Int.toNat (0 : Int)) (0 : Int)) (2 : Int) (fun r24 => (Hold (F_r02_turned k (List.getD r20 (Int.toNat (0 : Int)) (0 : Int)) (13 : Int) (fun r25 => (Hold (F_r02_turned k (List.getD r20 (Int.toNat (0 : Int)) (0 : Int)) (22 : Int) (fun r26 => (0 ≤ (7 : Int) ∧ (7 : Int) < (8 : Int)) ∧ (0 ≤ (4 : Int) ∧ (4 : Int) < (8 : Int)) ∧ (0 ≤ (5 : Int) ∧ (5 : Int) < (8 : Int)) ∧ (0 ≤ (4 : Int) ∧ (4 : Int) < (8 : Int)) ∧ (0 ≤ (6 : Int) ∧ (6 : Int) < (8 : Int)) ∧ (0 ≤ r16 ∧ r16 < (64 : Int)) ∧ (0 ≤ r16 ∧ r16 < (64 : Int)) ∧ (0 ≤ (0 : Int) ∧ (0 : Int) < (8 : Int)) ∧ (0 ≤ (1 : Int) ∧ (1 : Int) < (8 : Int)) ∧ (0 ≤ (0 : Int) ∧ (0 : Int) < (8 : Int)) ∧ (0 ≤ (2 : Int) ∧ (2 : Int) < (8 : Int)) ∧ (0 ≤ (1 : Int) ∧ (1 : Int) < (8 : Int)) ∧ (0 ≤ (2 : Int) ∧ (2 : Int) < (8 : Int)) ∧ (0 ≤ (0 : Int) ∧ (0 : Int) < (8 : Int)) ∧ (0 ≤ (1 : Int) ∧ (1 : Int) < (8 : Int)) ∧ (0 ≤ (2 : Int) ∧ (2 : Int) < (8 : Int)) ∧ (0 ≤ (3 : Int) ∧ (3 : Int) < (8 : Int)) ∧ (0 ≤ (4 : Int) ∧ (4 : Int) < (8 : Int)) ∧ (0 ≤ (5 : Int) ∧ (5 : Int) < (8 : Int)) ∧ (0 ≤ (6 : Int) ∧ (6 : Int) < (8 : Int)) ∧ (Hold (C_r02_block_14 k (IntKind.i64.wrap (r16 + (1 : Int))) r17 r18 r19 [(IntKind.u32.wrap ((IntKind.u32.wrap ((IntKind.u32.wrap ((IntKind.u32.wrap ((IntKind.u32.wrap ((List.getD r20 (Int.toNat (7 : Int)) (0 : Int)) + (ixor .u32 (ixor .u32 r21 r22) r23))) + (ixor .u32 (iand .u32 (List.getD r20 (Int.toNat (4 : Int)) (0 : Int)) (List.getD r20 (Int.toNat (5 : Int)) (0 : Int))) (iand .u32 (ixor .u32 (4294967295 : Int) (List.getD r20 (Int.toNat (4 : Int)) (0 : Int))) (List.getD r20 (Int.toNat (6 : Int)) (0 : Int)))))) + (List.getD (List.getD [G_r02_key] 0 (List.replicate 64 (0 : Int))) (Int.toNat r16) (0 : Int)))) + (List.getD r19 (Int.toNat r16) (0 : Int)))) + (IntKind.u32.wrap ((ixor .u32 (ixor .u32 r24 r25) r26) + (ixor .u32 (ixor .u32 (iand .u32 (List.getD r20 (Int.toNat (0 : Int)) (0 : Int)) (List.getD r20 (Int.toNat (1 : Int)) (0 : Int))) (iand .u32 (List.getD r20 (Int.toNat (0 : Int)) (0 : Int)) (List.getD r20 (Int.toNat (2 : Int)) (0 : Int)))) (iand .u32 (List.getD r20 (Int.toNat (1 : Int)) (0 : Int)) (List.getD r20 (Int.toNat (2 : Int)) (0 : Int)))))))), (List.getD r20 (Int.toNat (0 : Int)) (0 : Int)), (List.getD r20 (Int.toNat (1 : Int)) (0 : Int)), (List.getD r20 (Int.toNat (2 : Int)) (0 : Int)), (IntKind.u32.wrap ((List.getD r20 (Int.toNat (3 : Int)) (0 : Int)) + (IntKind.u32.wrap ((IntKind.u32.wrap ((IntKind.u32.wrap ((IntKind.u32.wrap ((List.getD r20 (Int.toNat (7 : Int)) (0 : Int)) + (ixor .u32 (ixor .u32 r21 r22) r23))) + (ixor .u32 (iand .u32 (List.getD r20 (Int.toNat (4 : Int)) (0 : Int)) (List.getD r20 (Int.toNat (5 : Int)) (0 : Int))) (iand .u32 (ixor .u32 (4294967295 : Int) (List.getD r20 (Int.toNat (4 : Int)) (0 : Int))) (List.getD r20 (Int.toNat (6 : Int)) (0 : Int)))))) + (List.getD (List.getD [G_r02_key] 0 (List.replicate 64 (0 : Int))) (Int.toNat r16) (0 : Int)))) + (List.getD r19 (Int.toNat r16) (0 : Int)))))), (List.getD r20 (Int.toNat (4 : Int)) (0 : Int)), (List.getD r20 (Int.toNat (5 : Int)) (0 : Int)), (List.getD r20 (Int.toNat (6 : Int)) (0 : Int))] K0))))))))))))))))))))) ((Hold (C_r02_block_22 k (0 : Int) r17 r18 r20 K0))))
def C_r02_block_7 : Nat → Int → (List Int) → (List Int) → (List Int) → ((List Int) → Prop) → Prop
  | 0, _, _, _, _, _ => False
  | k + 1, r8, r9, r10, r11, K0 => (cond (decide (r8 < (64 : Int))) ((0 ≤ (IntKind.i64.wrap (r8 - (15 : Int))) ∧ (IntKind.i64.wrap (r8 - (15 : Int))) < (64 : Int)) ∧ (0 ≤ (IntKind.i64.wrap (r8 - (15 : Int))) ∧ (IntKind.i64.wrap (r8 - (15 : Int))) < (64 : Int)) ∧ (0 ≤ (IntKind.i64.wrap (r8 - (15 : Int))) ∧ (IntKind.i64.wrap (r8 - (15 : Int))) < (64 : Int)) ∧ (0 ≤ (3 : Int)) ∧ (Hold (F_r02_turned k (List.getD r11 (Int.toNat (IntKind.i64.wrap (r8 - (15 : Int)))) (0 : Int)) (7 : Int) (fun r12 => (Hold (F_r02_turned k (List.getD r11 (Int.toNat (IntKind.i64.wrap (r8 - (15 : Int)))) (0 : Int)) (18 : Int) (fun r13 => (0 ≤ (IntKind.i64.wrap (r8 - (2 : Int))) ∧ (IntKind.i64.wrap (r8 - (2 : Int))) < (64 : Int)) ∧ (0 ≤ (IntKind.i64.wrap (r8 - (2 : Int))) ∧ (IntKind.i64.wrap (r8 - (2 : Int))) < (64 : Int)) ∧ (0 ≤ (IntKind.i64.wrap (r8 - (2 : Int))) ∧ (IntKind.i64.wrap (r8 - (2 : Int))) < (64 : Int)) ∧ (0 ≤ (10 : Int)) ∧ (Hold (F_r02_turned k (List.getD r11 (Int.toNat (IntKind.i64.wrap (r8 - (2 : Int)))) (0 : Int)) (17 : Int) (fun r14 => (Hold (F_r02_turned k (List.getD r11 (Int.toNat (IntKind.i64.wrap (r8 - (2 : Int)))) (0 : Int)) (19 : Int) (fun r15 => (0 ≤ (IntKind.i64.wrap (r8 - (7 : Int))) ∧ (IntKind.i64.wrap (r8 - (7 : Int))) < (64 : Int)) ∧ (0 ≤ (IntKind.i64.wrap (r8 - (16 : Int))) ∧ (IntKind.i64.wrap (r8 - (16 : Int))) < (64 : Int)) ∧ (0 ≤ r8 ∧ r8 < (64 : Int)) ∧ (Hold (C_r02_block_7 k (IntKind.i64.wrap (r8 + (1 : Int))) r9 r10 (List.set r11 (Int.toNat r8) (IntKind.u32.wrap ((IntKind.u32.wrap ((IntKind.u32.wrap ((ixor .u32 (ixor .u32 r14 r15) (ishr .u32 (List.getD r11 (Int.toNat (IntKind.i64.wrap (r8 - (2 : Int)))) (0 : Int)) (10 : Int))) + (List.getD r11 (Int.toNat (IntKind.i64.wrap (r8 - (7 : Int)))) (0 : Int)))) + (ixor .u32 (ixor .u32 r12 r13) (ishr .u32 (List.getD r11 (Int.toNat (IntKind.i64.wrap (r8 - (15 : Int)))) (0 : Int)) (3 : Int))))) + (List.getD r11 (Int.toNat (IntKind.i64.wrap (r8 - (16 : Int)))) (0 : Int))))) K0))))))))))))))) ((Hold (C_r02_block_14 k (0 : Int) r9 r10 r11 r9 K0))))
def C_r02_block_3 : Nat → (List Int) → Int → (List Int) → (List Int) → (List Int) → ((List Int) → Prop) → Prop
  | 0, _, _, _, _, _, _ => False
  | k + 1, r3, r4, r5, r6, r7, K0 => (cond (decide (r4 < (16 : Int))) ((0 ≤ (IntKind.i64.wrap ((4 : Int) * r4)) ∧ (IntKind.i64.wrap ((4 : Int) * r4)) < ((List.length r3 : Nat) : Int)) ∧ (0 ≤ (24 : Int)) ∧ (0 ≤ (IntKind.i64.wrap ((IntKind.i64.wrap ((4 : Int) * r4)) + (1 : Int))) ∧ (IntKind.i64.wrap ((IntKind.i64.wrap ((4 : Int) * r4)) + (1 : Int))) < ((List.length r3 : Nat) : Int)) ∧ (0 ≤ (16 : Int)) ∧ (0 ≤ (IntKind.i64.wrap ((IntKind.i64.wrap ((4 : Int) * r4)) + (2 : Int))) ∧ (IntKind.i64.wrap ((IntKind.i64.wrap ((4 : Int) * r4)) + (2 : Int))) < ((List.length r3 : Nat) : Int)) ∧ (0 ≤ (8 : Int)) ∧ (0 ≤ (IntKind.i64.wrap ((IntKind.i64.wrap ((4 : Int) * r4)) + (3 : Int))) ∧ (IntKind.i64.wrap ((IntKind.i64.wrap ((4 : Int) * r4)) + (3 : Int))) < ((List.length r3 : Nat) : Int)) ∧ (0 ≤ r4 ∧ r4 < (64 : Int)) ∧ (Hold (C_r02_block_3 k r3 (IntKind.i64.wrap (r4 + (1 : Int))) r5 r6 (List.set r7 (Int.toNat r4) (IntKind.u32.wrap ((IntKind.u32.wrap ((IntKind.u32.wrap ((ishl .u32 (IntKind.u32.wrap (List.getD r3 (Int.toNat (IntKind.i64.wrap ((4 : Int) * r4))) (0 : Int))) (24 : Int)) + (ishl .u32 (IntKind.u32.wrap (List.getD r3 (Int.toNat (IntKind.i64.wrap ((IntKind.i64.wrap ((4 : Int) * r4)) + (1 : Int)))) (0 : Int))) (16 : Int)))) + (ishl .u32 (IntKind.u32.wrap (List.getD r3 (Int.toNat (IntKind.i64.wrap ((IntKind.i64.wrap ((4 : Int) * r4)) + (2 : Int)))) (0 : Int))) (8 : Int)))) + (IntKind.u32.wrap (List.getD r3 (Int.toNat (IntKind.i64.wrap ((IntKind.i64.wrap ((4 : Int) * r4)) + (3 : Int)))) (0 : Int)))))) K0))) ((Hold (C_r02_block_7 k (16 : Int) r5 r6 r7 K0))))
def F_r02_block (k : Nat) (r1 : (List Int)) (r2 : (List Int)) (K0 : (List Int) → Prop) : Prop := match k with
  | 0 => False
  | k + 1 => (Hold (C_r02_block_3 k r2 (0 : Int) r1 (List.replicate 8 (0 : Int)) (List.replicate 64 (0 : Int)) K0))
def C_r02_Sum_9 : Nat → Int → (List Int) → (List Int) → (List Int) → ((List Int) → Prop) → Prop
  | 0, _, _, _, _, _ => False
  | k + 1, r9, r10, r11, r12, K0 => (cond (decide (r9 < (32 : Int))) (((4 : Int) ≠ 0) ∧ (0 ≤ (IntKind.i64.wrap (Int.tdiv r9 (4 : Int))) ∧ (IntKind.i64.wrap (Int.tdiv r9 (4 : Int))) < (8 : Int)) ∧ ((4 : Int) ≠ 0) ∧ (0 ≤ (IntKind.i64.wrap ((24 : Int) - (IntKind.i64.wrap ((8 : Int) * (Int.tmod r9 (4 : Int))))))) ∧ (0 ≤ r9 ∧ r9 < (32 : Int)) ∧ (Hold (C_r02_Sum_9 k (IntKind.i64.wrap (r9 + (1 : Int))) r10 r11 (List.set r12 (Int.toNat r9) (IntKind.u8.wrap (ishr .u32 (List.getD r11 (Int.toNat (IntKind.i64.wrap (Int.tdiv r9 (4 : Int)))) (0 : Int)) (IntKind.i64.wrap ((24 : Int) - (IntKind.i64.wrap ((8 : Int) * (Int.tmod r9 (4 : Int))))))))) K0))) (K0 r12))
def C_r02_Sum_4 : Nat → Int → (List Int) → (List Int) → (List Int) → ((List Int) → Prop) → Prop
  | 0, _, _, _, _, _ => False
  | k + 1, r4, r5, r6, r7, K0 => (cond (decide (r4 < ((List.length r6 : Nat) : Int))) ((0 ≤ r4 ∧ r4 ≤ (IntKind.i64.wrap (r4 + (64 : Int))) ∧ (IntKind.i64.wrap (r4 + (64 : Int))) ≤ ((List.length r6 : Nat) : Int)) ∧ (Hold (F_r02_block k r7 (cut r6 (Int.toNat r4) (Int.toNat ((IntKind.i64.wrap (r4 + (64 : Int))) - r4))) (fun r8 => (Hold (C_r02_Sum_4 k (IntKind.i64.wrap (r4 + (64 : Int))) r5 r6 r8 K0)))))) ((Hold (C_r02_Sum_9 k (0 : Int) r5 r7 (List.replicate 32 (0 : Int)) K0))))
def F_r02_Sum (k : Nat) (r1 : (List Int)) (K0 : (List Int) → Prop) : Prop := match k with
  | 0 => False
  | k + 1 => (Hold (F_r02_Padded k r1 (fun r2 => (Hold (F_r02_begin k (fun r3 => (Hold (C_r02_Sum_4 k (0 : Int) (List.replicate 32 (0 : Int)) r2 r3 K0))))))))
def C_r05_Short_6 : Nat → Int → Int → (List Int) → (List Int) → (List Int) → ((List Int) → Int → Prop) → Prop
  | 0, _, _, _, _, _, _ => False
  | k + 1, r5, r6, r7, r8, r9, K0 => (cond (decide (r6 < r5)) ((0 ≤ r6 ∧ r6 < (32 : Int)) ∧ (0 ≤ r6 ∧ r6 < (32 : Int)) ∧ (Hold (C_r05_Short_6 k r5 (IntKind.i64.wrap (r6 + (1 : Int))) r7 (List.set r8 (Int.toNat r6) (List.getD r9 (Int.toNat r6) (0 : Int))) r9 K0))) (K0 r8 (0 : Int)))
def F_r05_Short (k : Nat) (r1 : Int) (r2 : (List Int)) (K0 : (List Int) → Int → Prop) : Prop := match k with
  | 0 => False
  | k + 1 => (Hold (F_r05_Width k r1 (fun r3 => (cond (!r3) (K0 (List.replicate 32 (0 : Int)) (1 : Int)) ((Hold (F_r02_Sum k r2 (fun r4 => (Hold (C_r05_Short_6 k r1 (0 : Int) (List.replicate 32 (0 : Int)) (List.replicate 32 (0 : Int)) r4 K0))))))))))
def F_r05_Empty (k : Nat) (r1 : Int) (K0 : (List Int) → Prop) : Prop := match k with
  | 0 => False
  | k + 1 => (Hold (F_r05_Short k r1 [(2 : Int)] (fun r2 r3 => K0 r2)))
def F_r05_LeafBytes (k : Nat) (r1 : (List Int)) (r2 : (List Int)) (K0 : (List Int) → Prop) : Prop := match k with
  | 0 => False
  | k + 1 => (0 ≤ (0 : Int) ∧ (0 : Int) ≤ (32 : Int) ∧ (32 : Int) ≤ (32 : Int)) ∧ (room (List.length [(0 : Int)] + List.length (cut r1 (Int.toNat (0 : Int)) (Int.toNat ((32 : Int) - (0 : Int))))) 1) ∧ (0 ≤ (0 : Int) ∧ (0 : Int) ≤ (32 : Int) ∧ (32 : Int) ≤ (32 : Int)) ∧ (room (List.length ([(0 : Int)] ++ (cut r1 (Int.toNat (0 : Int)) (Int.toNat ((32 : Int) - (0 : Int))))) + List.length (cut r2 (Int.toNat (0 : Int)) (Int.toNat ((32 : Int) - (0 : Int))))) 1) ∧ K0 (([(0 : Int)] ++ (cut r1 (Int.toNat (0 : Int)) (Int.toNat ((32 : Int) - (0 : Int))))) ++ (cut r2 (Int.toNat (0 : Int)) (Int.toNat ((32 : Int) - (0 : Int)))))
def F_r05_Leaf (k : Nat) (r1 : Int) (r2 : (List Int)) (r3 : (List Int)) (K0 : (List Int) → Prop) : Prop := match k with
  | 0 => False
  | k + 1 => (Hold (F_r05_LeafBytes k r2 r3 (fun r4 => (Hold (F_r05_Short k r1 r4 (fun r5 r6 => K0 r5))))))
mutual
def C_r05_Half_4 : Nat → (List S_api_Leaf) → Int → Int → Int → (List S_api_Leaf) → ((List S_api_Leaf) → Prop) → Prop
  | 0, _, _, _, _, _, _ => False
  | k + 1, r10, r11, r12, r13, r14, K0 => (Hold (C_r05_Half_3 k r10 r11 r12 (IntKind.i64.wrap (r13 + (1 : Int))) r14 K0))
def C_r05_Half_3 : Nat → (List S_api_Leaf) → Int → Int → Int → (List S_api_Leaf) → ((List S_api_Leaf) → Prop) → Prop
  | 0, _, _, _, _, _, _ => False
  | k + 1, r4, r5, r6, r7, r8, K0 => (cond (decide (r7 < ((List.length r4 : Nat) : Int))) ((0 ≤ r7 ∧ r7 < ((List.length r4 : Nat) : Int)) ∧ (Hold (F_r04_At k (List.getD r4 (Int.toNat r7) (S_api_Leaf.mk (List.replicate 32 (0 : Int)) (List.replicate 32 (0 : Int)))).f0 r5 (fun r9 => (cond (decide (r9 = r6)) ((0 ≤ r7 ∧ r7 < ((List.length r4 : Nat) : Int)) ∧ (room (List.length r8 + List.length [(S_api_Leaf.mk (List.getD r4 (Int.toNat r7) (S_api_Leaf.mk (List.replicate 32 (0 : Int)) (List.replicate 32 (0 : Int)))).f0 (List.getD r4 (Int.toNat r7) (S_api_Leaf.mk (List.replicate 32 (0 : Int)) (List.replicate 32 (0 : Int)))).f1)]) 64) ∧ (Hold (C_r05_Half_4 k r4 r5 r6 r7 (r8 ++ [(S_api_Leaf.mk (List.getD r4 (Int.toNat r7) (S_api_Leaf.mk (List.replicate 32 (0 : Int)) (List.replicate 32 (0 : Int)))).f0 (List.getD r4 (Int.toNat r7) (S_api_Leaf.mk (List.replicate 32 (0 : Int)) (List.replicate 32 (0 : Int)))).f1)]) K0))) ((Hold (C_r05_Half_4 k r4 r5 r6 r7 r8 K0)))))))) (K0 r8))
end
def F_r05_Half (k : Nat) (r1 : (List S_api_Leaf)) (r2 : Int) (r3 : Int) (K0 : (List S_api_Leaf) → Prop) : Prop := match k with
  | 0 => False
  | k + 1 => (Hold (C_r05_Half_3 k r1 r2 r3 (0 : Int) [] K0))
def F_r05_NodeBytes (k : Nat) (r1 : (List Int)) (r2 : (List Int)) (K0 : (List Int) → Prop) : Prop := match k with
  | 0 => False
  | k + 1 => (0 ≤ (0 : Int) ∧ (0 : Int) ≤ (32 : Int) ∧ (32 : Int) ≤ (32 : Int)) ∧ (room (List.length [(1 : Int)] + List.length (cut r1 (Int.toNat (0 : Int)) (Int.toNat ((32 : Int) - (0 : Int))))) 1) ∧ (0 ≤ (0 : Int) ∧ (0 : Int) ≤ (32 : Int) ∧ (32 : Int) ≤ (32 : Int)) ∧ (room (List.length ([(1 : Int)] ++ (cut r1 (Int.toNat (0 : Int)) (Int.toNat ((32 : Int) - (0 : Int))))) + List.length (cut r2 (Int.toNat (0 : Int)) (Int.toNat ((32 : Int) - (0 : Int))))) 1) ∧ K0 (([(1 : Int)] ++ (cut r1 (Int.toNat (0 : Int)) (Int.toNat ((32 : Int) - (0 : Int))))) ++ (cut r2 (Int.toNat (0 : Int)) (Int.toNat ((32 : Int) - (0 : Int)))))
def F_r05_Node (k : Nat) (r1 : Int) (r2 : (List Int)) (r3 : (List Int)) (K0 : (List Int) → Prop) : Prop := match k with
  | 0 => False
  | k + 1 => (Hold (F_r05_NodeBytes k r2 r3 (fun r4 => (Hold (F_r05_Short k r1 r4 (fun r5 r6 => K0 r5))))))
def F_r05_Digest : Nat → Int → (List S_api_Leaf) → Int → ((List Int) → Prop) → Prop
  | 0, _, _, _, _ => False
  | k + 1, r1, r2, r3, K0 => (cond (decide (((List.length r2 : Nat) : Int) = (0 : Int))) ((Hold (F_r05_Empty k r1 (fun r4 => K0 r4)))) ((cond (decide (((List.length r2 : Nat) : Int) = (1 : Int))) ((0 ≤ (0 : Int) ∧ (0 : Int) < ((List.length r2 : Nat) : Int)) ∧ (Hold (F_r05_Leaf k r1 (List.getD r2 (Int.toNat (0 : Int)) (S_api_Leaf.mk (List.replicate 32 (0 : Int)) (List.replicate 32 (0 : Int)))).f0 (List.getD r2 (Int.toNat (0 : Int)) (S_api_Leaf.mk (List.replicate 32 (0 : Int)) (List.replicate 32 (0 : Int)))).f1 (fun r5 => K0 r5)))) ((Hold (F_r05_Half k r2 r3 (0 : Int) (fun r6 => (Hold (F_r05_Digest k r1 r6 (IntKind.i64.wrap (r3 + (1 : Int))) (fun r7 => (Hold (F_r05_Half k r2 r3 (1 : Int) (fun r8 => (Hold (F_r05_Digest k r1 r8 (IntKind.i64.wrap (r3 + (1 : Int))) (fun r9 => (Hold (F_r05_Node k r1 r7 r9 (fun r10 => K0 r10)))))))))))))))))))
def C_r05_Get_2 : Nat → (List S_api_Leaf) → Int → (List Int) → (List Int) → ((List Int) → Bool → Prop) → Prop
  | 0, _, _, _, _, _ => False
  | k + 1, r3, r4, r5, r6, K0 => (cond (decide (r4 < ((List.length r3 : Nat) : Int))) ((0 ≤ r4 ∧ r4 < ((List.length r3 : Nat) : Int)) ∧ (cond (decide ((List.getD r3 (Int.toNat r4) (S_api_Leaf.mk (List.replicate 32 (0 : Int)) (List.replicate 32 (0 : Int)))).f0 = r5)) ((0 ≤ r4 ∧ r4 < ((List.length r3 : Nat) : Int)) ∧ K0 (List.getD r3 (Int.toNat r4) (S_api_Leaf.mk (List.replicate 32 (0 : Int)) (List.replicate 32 (0 : Int)))).f1 true) ((Hold (C_r05_Get_2 k r3 (IntKind.i64.wrap (r4 + (1 : Int))) r5 r6 K0))))) (K0 [(0 : Int), (0 : Int), (0 : Int), (0 : Int), (0 : Int), (0 : Int), (0 : Int), (0 : Int), (0 : Int), (0 : Int), (0 : Int), (0 : Int), (0 : Int), (0 : Int), (0 : Int), (0 : Int), (0 : Int), (0 : Int), (0 : Int), (0 : Int), (0 : Int), (0 : Int), (0 : Int), (0 : Int), (0 : Int), (0 : Int), (0 : Int), (0 : Int), (0 : Int), (0 : Int), (0 : Int), (0 : Int)] false))
def F_r05_Get (k : Nat) (r1 : (List S_api_Leaf)) (r2 : (List Int)) (K0 : (List Int) → Bool → Prop) : Prop := match k with
  | 0 => False
  | k + 1 => (Hold (C_r05_Get_2 k r1 (0 : Int) r2 (List.replicate 32 (0 : Int)) K0))
mutual
def C_l05_SmtTrees_31_1 : Nat → Int → (List S_l05_Op) → Int → Int → Int → (KT S_api_Leaf) → (List S_api_Leaf) → Int → (List S_api_Leaf) → (List Int) → (Bool → Prop) → Prop
  | 0, _, _, _, _, _, _, _, _, _, _, _ => False
  | k + 1, r380, r381, r382, r383, r384, r385, r386, r387, r388, r389, K0 => (Hold (F_smt_Tree_Get k r389 r383 r384 r385 (fun r390 r391 r392 r393 r394 => (Hold (F_r05_Get k r386 r389 (fun r395 r396 => (cond (!(decide (r390 = r395))) (K0 false) ((cond (!(r391 == r396)) (K0 false) ((Hold (C_l05_SmtTrees_35_1 k r380 r381 r382 r392 r393 r394 r386 K0))))))))))))
def C_l05_SmtTrees_30_1 : Nat → Int → (List S_l05_Op) → Int → Int → Int → Int → (KT S_api_Leaf) → (List S_api_Leaf) → Int → (List S_api_Leaf) → (List Int) → (Bool → Prop) → Prop
  | 0, _, _, _, _, _, _, _, _, _, _, _, _ => False
  | k + 1, r369, r370, r371, r372, r373, r374, r375, r376, r377, r378, r379, K0 => (cond (decide (r372 = (3 : Int))) ((Hold (C_l05_SmtTrees_31_1 k r369 r370 r371 r373 r374 r375 r376 r377 r378 r379 K0))) ((Hold (C_l05_SmtTrees_35_1 k r369 r370 r371 r373 r374 r375 r376 K0))))
def C_l05_SmtTrees_26_1 : Nat → Int → (List S_l05_Op) → Int → Int → Int → (KT S_api_Leaf) → (List S_api_Leaf) → Int → (List S_api_Leaf) → (List Int) → (Bool → Prop) → Prop
  | 0, _, _, _, _, _, _, _, _, _, _, _ => False
  | k + 1, r353, r354, r355, r356, r357, r358, r359, r360, r361, r362, K0 => (Hold (F_r05_Drop k r359 r362 (fun r363 r364 => (Hold (F_smt_Tree_Drop k r362 r356 r357 r358 (fun r365 r366 r367 r368 => (cond (!(r365 == r364)) (K0 false) ((Hold (C_l05_SmtTrees_35_1 k r353 r354 r355 r366 r367 r368 r363 K0))))))))))
def C_l05_SmtTrees_25_1 : Nat → Int → (List S_l05_Op) → Int → Int → Int → Int → (KT S_api_Leaf) → (List S_api_Leaf) → Int → (List S_api_Leaf) → (List Int) → (Bool → Prop) → Prop
  | 0, _, _, _, _, _, _, _, _, _, _, _, _ => False
  | k + 1, r342, r343, r344, r345, r346, r347, r348, r349, r350, r351, r352, K0 => (cond (decide (r345 = (2 : Int))) ((Hold (C_l05_SmtTrees_26_1 k r342 r343 r344 r346 r347 r348 r349 r350 r351 r352 K0))) ((Hold (C_l05_SmtTrees_30_1 k r342 r343 r344 r345 r346 r347 r348 r349 r350 r351 r352 K0))))
def C_l05_SmtTrees_31 : Nat → Int → (List S_l05_Op) → (List S_api_Leaf) → Int → Int → Int → (KT S_api_Leaf) → Int → (List S_api_Leaf) → (List Int) → (Bool → Prop) → Prop
  | 0, _, _, _, _, _, _, _, _, _, _, _ => False
  | k + 1, r321, r322, r323, r324, r325, r326, r327, r328, r329, r330, K0 => (Hold (F_smt_Tree_Get k r330 r325 r326 r327 (fun r331 r332 r333 r334 r335 => (Hold (F_r05_Get k r323 r330 (fun r336 r337 => (cond (!(decide (r331 = r336))) (K0 false) ((cond (!(r332 == r337)) (K0 false) ((Hold (C_l05_SmtTrees_35 k r321 r322 r323 r324 r333 r334 r335 K0))))))))))))
def C_l05_SmtTrees_30 : Nat → Int → (List S_l05_Op) → (List S_api_Leaf) → Int → Int → Int → Int → (KT S_api_Leaf) → Int → (List S_api_Leaf) → (List Int) → (Bool → Prop) → Prop
  | 0, _, _, _, _, _, _, _, _, _, _, _, _ => False
  | k + 1, r310, r311, r312, r313, r314, r315, r316, r317, r318, r319, r320, K0 => (cond (decide (r314 = (3 : Int))) ((Hold (C_l05_SmtTrees_31 k r310 r311 r312 r313 r315 r316 r317 r318 r319 r320 K0))) ((Hold (C_l05_SmtTrees_35 k r310 r311 r312 r313 r315 r316 r317 K0))))
def C_l05_SmtTrees_26 : Nat → Int → (List S_l05_Op) → (List S_api_Leaf) → Int → Int → Int → (KT S_api_Leaf) → Int → (List S_api_Leaf) → (List Int) → (Bool → Prop) → Prop
  | 0, _, _, _, _, _, _, _, _, _, _, _ => False
  | k + 1, r294, r295, r296, r297, r298, r299, r300, r301, r302, r303, K0 => (Hold (F_r05_Drop k r296 r303 (fun r304 r305 => (Hold (F_smt_Tree_Drop k r303 r298 r299 r300 (fun r306 r307 r308 r309 => (cond (!(r306 == r305)) (K0 false) ((Hold (C_l05_SmtTrees_35_1 k r294 r295 r297 r307 r308 r309 r304 K0))))))))))
def C_l05_SmtTrees_25 : Nat → Int → (List S_l05_Op) → (List S_api_Leaf) → Int → Int → Int → Int → (KT S_api_Leaf) → Int → (List S_api_Leaf) → (List Int) → (Bool → Prop) → Prop
  | 0, _, _, _, _, _, _, _, _, _, _, _, _ => False
  | k + 1, r283, r284, r285, r286, r287, r288, r289, r290, r291, r292, r293, K0 => (cond (decide (r287 = (2 : Int))) ((Hold (C_l05_SmtTrees_26 k r283 r284 r285 r286 r288 r289 r290 r291 r292 r293 K0))) ((Hold (C_l05_SmtTrees_30 k r283 r284 r285 r286 r287 r288 r289 r290 r291 r292 r293 K0))))
def C_l05_SmtTrees_40_1 : Nat → Int → (List S_l05_Op) → Int → Int → Int → Int → (KT S_api_Leaf) → (List S_api_Leaf) → (List S_api_Leaf) → (Bool → Prop) → Prop
  | 0, _, _, _, _, _, _, _, _, _, _ => False
  | k + 1, r274, r275, r276, r277, r278, r279, r280, r281, r282, K0 => (Hold (C_l05_SmtTrees_39_1 k r274 r275 r276 (IntKind.i64.wrap (r277 + (1 : Int))) r278 r279 r280 r281 r282 K0))
def C_l05_SmtTrees_41_1 : Nat → Int → (List S_l05_Op) → Int → Int → Int → Int → (KT S_api_Leaf) → (List S_api_Leaf) → (List S_api_Leaf) → (Bool → Prop) → Prop
  | 0, _, _, _, _, _, _, _, _, _, _ => False
  | k + 1, r265, r266, r267, r268, r269, r270, r271, r272, r273, K0 => (0 ≤ r268 ∧ r268 < ((List.length r273 : Nat) : Int)) ∧ (0 ≤ (0 : Int) ∧ (0 : Int) < (32 : Int)) ∧ (Hold (C_l05_SmtTrees_40_1 k r265 r266 r267 r268 r269 r270 r271 r272 (List.set r273 (Int.toNat r268) (S_api_Leaf.mk (List.getD r273 (Int.toNat r268) (S_api_Leaf.mk (List.replicate 32 (0 : Int)) (List.replicate 32 (0 : Int)))).f0 (List.set (List.getD r273 (Int.toNat r268) (S_api_Leaf.mk (List.replicate 32 (0 : Int)) (List.replicate 32 (0 : Int)))).f1 (Int.toNat (0 : Int)) (77 : Int)))) K0))
def C_l05_SmtTrees_39_1 : Nat → Int → (List S_l05_Op) → Int → Int → Int → Int → (KT S_api_Leaf) → (List S_api_Leaf) → (List S_api_Leaf) → (Bool → Prop) → Prop
  | 0, _, _, _, _, _, _, _, _, _, _ => False
  | k + 1, r256, r257, r258, r259, r260, r261, r262, r263, r264, K0 => (cond (decide (r259 < ((List.length r264 : Nat) : Int))) ((Hold (C_l05_SmtTrees_41_1 k r256 r257 r258 r259 r260 r261 r262 r263 r264 K0))) ((Hold (C_l05_SmtTrees_15 k r256 r257 (IntKind.i64.wrap (r258 + (1 : Int))) r260 r261 r262 r263 K0))))
def C_l05_SmtTrees_36_1 : Nat → Int → (List S_l05_Op) → Int → Int → Int → (KT S_api_Leaf) → (List S_api_Leaf) → (List S_api_Leaf) → (Bool → Prop) → Prop
  | 0, _, _, _, _, _, _, _, _, _ => False
  | k + 1, r237, r238, r239, r240, r241, r242, r243, r244, K0 => (Hold (F_smt_Tree_Len k r240 r241 r242 (fun r245 r246 r247 r248 => (cond (!decide (r245 = ((List.length r243 : Nat) : Int))) (K0 false) ((Hold (F_r05_Sorted k r243 (fun r249 => (Hold (F_l05_same k r244 r249 (fun r250 => (cond (!r250) (K0 false) ((Hold (F_smt_Tree_Root k r246 r247 r248 (fun r251 r252 r253 r254 => (Hold (F_r05_Digest k r237 r243 (0 : Int) (fun r255 => (cond (!(decide (r251 = r255))) (K0 false) ((Hold (C_l05_SmtTrees_39_1 k r237 r238 r239 (0 : Int) r252 r253 r254 r243 r244 K0)))))))))))))))))))))))
def C_l05_SmtTrees_35_1 : Nat → Int → (List S_l05_Op) → Int → Int → Int → (KT S_api_Leaf) → (List S_api_Leaf) → (Bool → Prop) → Prop
  | 0, _, _, _, _, _, _, _, _ => False
  | k + 1, r226, r227, r228, r229, r230, r231, r232, K0 => (Hold (F_smt_Tree_Leaves k r229 r230 r231 (fun r233 r234 r235 r236 => (Hold (C_l05_SmtTrees_36_1 k r226 r227 r228 r233 r234 r235 r232 r236 K0)))))
def C_l05_SmtTrees_22_1 : Nat → Int → (List S_l05_Op) → Int → Int → Int → Int → (KT S_api_Leaf) → Int → (List S_api_Leaf) → (List Int) → (List S_api_Leaf) → (List S_api_Leaf) → (Bool → Prop) → Prop
  | 0, _, _, _, _, _, _, _, _, _, _, _, _, _ => False
  | k + 1, r209, r210, r211, r212, r213, r214, r215, r216, r217, r218, r219, r220, K0 => (Hold (F_smt_Tree_Set_s1 k r217 r213 r214 r215 (fun r221 r222 r223 r224 => (cond (!decide (r221 = r212)) (K0 false) ((Hold (F_l05_same k r217 r219 (fun r225 => (cond (!r225) (K0 false) ((Hold (C_l05_SmtTrees_35_1 k r209 r210 r211 r222 r223 r224 r220 K0))))))))))))
def C_l05_SmtTrees_21_1 : Nat → Int → (List S_l05_Op) → (List S_api_Leaf) → Int → Int → Int → (KT S_api_Leaf) → Int → (List S_api_Leaf) → (List Int) → (List S_api_Leaf) → (Bool → Prop) → Prop
  | 0, _, _, _, _, _, _, _, _, _, _, _, _ => False
  | k + 1, r194, r195, r196, r197, r198, r199, r200, r201, r202, r203, r204, K0 => (Hold (F_r05_Set k r196 r204 (fun r205 r206 => (Hold (C_l05_SmtTrees_22 k r194 r195 r197 r205 r206 r198 r199 r200 r201 r202 r203 r204 K0))) (fun r207 r208 => (Hold (C_l05_SmtTrees_22_1 k r194 r195 r197 r208 r198 r199 r200 r201 r202 r203 r204 r207 K0)))))
def C_l05_SmtTrees_20_1 : Nat → Int → (List S_l05_Op) → (List S_api_Leaf) → Int → Int → Int → (KT S_api_Leaf) → Int → (List S_api_Leaf) → (List Int) → (Bool → Prop) → Prop
  | 0, _, _, _, _, _, _, _, _, _, _, _ => False
  | k + 1, r183, r184, r185, r186, r187, r188, r189, r190, r191, r192, K0 => (Hold (F_l05_own k r191 (fun r193 => (Hold (C_l05_SmtTrees_21_1 k r183 r184 r185 r186 r187 r188 r189 r190 r191 r192 r193 K0)))))
def C_l05_SmtTrees_19_1 : Nat → Int → (List S_l05_Op) → (List S_api_Leaf) → Int → Int → Int → Int → (KT S_api_Leaf) → Int → (List S_api_Leaf) → (List Int) → (Bool → Prop) → Prop
  | 0, _, _, _, _, _, _, _, _, _, _, _, _ => False
  | k + 1, r172, r173, r174, r175, r176, r177, r178, r179, r180, r181, r182, K0 => (cond (decide (r176 = (1 : Int))) ((Hold (C_l05_SmtTrees_20_1 k r172 r173 r174 r175 r177 r178 r179 r180 r181 r182 K0))) ((Hold (C_l05_SmtTrees_25 k r172 r173 r174 r175 r176 r177 r178 r179 r180 r181 r182 K0))))
def C_l05_SmtTrees_18_1 : Nat → Int → (List S_l05_Op) → (List S_api_Leaf) → Int → Int → Int → (KT S_api_Leaf) → Int → (List S_api_Leaf) → (List Int) → (Bool → Prop) → Prop
  | 0, _, _, _, _, _, _, _, _, _, _, _ => False
  | k + 1, r162, r163, r164, r165, r166, r167, r168, r169, r170, r171, K0 => (Hold (C_l05_SmtTrees_19_1 k r162 r163 r164 r165 r169 r166 r167 r168 r169 r170 r171 K0))
def C_l05_SmtTrees_17_1 : Nat → Int → (List S_l05_Op) → (List S_api_Leaf) → Int → Int → Int → (KT S_api_Leaf) → (Bool → Prop) → Prop
  | 0, _, _, _, _, _, _, _, _ => False
  | k + 1, r155, r156, r157, r158, r159, r160, r161, K0 => (0 ≤ r158 ∧ r158 < ((List.length r156 : Nat) : Int)) ∧ (Hold (C_l05_SmtTrees_18_1 k r155 r156 r157 r158 r159 r160 r161 (List.getD r156 (Int.toNat r158) (S_l05_Op.mk (0 : Int) ([] : List S_api_Leaf) (List.replicate 32 (0 : Int)))).f0 (List.getD r156 (Int.toNat r158) (S_l05_Op.mk (0 : Int) ([] : List S_api_Leaf) (List.replicate 32 (0 : Int)))).f1 (List.getD r156 (Int.toNat r158) (S_l05_Op.mk (0 : Int) ([] : List S_api_Leaf) (List.replicate 32 (0 : Int)))).f2 K0))
def C_l05_SmtTrees_15_1 : Nat → Int → (List S_l05_Op) → (List S_api_Leaf) → Int → Int → Int → (KT S_api_Leaf) → (Bool → Prop) → Prop
  | 0, _, _, _, _, _, _, _, _ => False
  | k + 1, r148, r149, r150, r151, r152, r153, r154, K0 => (cond (decide (r151 < ((List.length r149 : Nat) : Int))) ((Hold (C_l05_SmtTrees_17_1 k r148 r149 r150 r151 r152 r153 r154 K0))) ((Hold (F_l05_grows k (fun r338 => (cond r338 ((Hold (F_r05_Width k r148 (fun r339 => K0 r339)))) (K0 false)))))))
def C_l05_SmtTrees_40 : Nat → Int → (List S_l05_Op) → (List S_api_Leaf) → Int → Int → Int → Int → (KT S_api_Leaf) → (List S_api_Leaf) → (Bool → Prop) → Prop
  | 0, _, _, _, _, _, _, _, _, _, _ => False
  | k + 1, r139, r140, r141, r142, r143, r144, r145, r146, r147, K0 => (Hold (C_l05_SmtTrees_39 k r139 r140 r141 r142 (IntKind.i64.wrap (r143 + (1 : Int))) r144 r145 r146 r147 K0))
def C_l05_SmtTrees_41 : Nat → Int → (List S_l05_Op) → (List S_api_Leaf) → Int → Int → Int → Int → (KT S_api_Leaf) → (List S_api_Leaf) → (Bool → Prop) → Prop
  | 0, _, _, _, _, _, _, _, _, _, _ => False
  | k + 1, r130, r131, r132, r133, r134, r135, r136, r137, r138, K0 => (0 ≤ r134 ∧ r134 < ((List.length r138 : Nat) : Int)) ∧ (0 ≤ (0 : Int) ∧ (0 : Int) < (32 : Int)) ∧ (Hold (C_l05_SmtTrees_40 k r130 r131 r132 r133 r134 r135 r136 r137 (List.set r138 (Int.toNat r134) (S_api_Leaf.mk (List.getD r138 (Int.toNat r134) (S_api_Leaf.mk (List.replicate 32 (0 : Int)) (List.replicate 32 (0 : Int)))).f0 (List.set (List.getD r138 (Int.toNat r134) (S_api_Leaf.mk (List.replicate 32 (0 : Int)) (List.replicate 32 (0 : Int)))).f1 (Int.toNat (0 : Int)) (77 : Int)))) K0))
def C_l05_SmtTrees_39 : Nat → Int → (List S_l05_Op) → (List S_api_Leaf) → Int → Int → Int → Int → (KT S_api_Leaf) → (List S_api_Leaf) → (Bool → Prop) → Prop
  | 0, _, _, _, _, _, _, _, _, _, _ => False
  | k + 1, r121, r122, r123, r124, r125, r126, r127, r128, r129, K0 => (cond (decide (r125 < ((List.length r129 : Nat) : Int))) ((Hold (C_l05_SmtTrees_41 k r121 r122 r123 r124 r125 r126 r127 r128 r129 K0))) ((Hold (C_l05_SmtTrees_15_1 k r121 r122 r123 (IntKind.i64.wrap (r124 + (1 : Int))) r126 r127 r128 K0))))
def C_l05_SmtTrees_36 : Nat → Int → (List S_l05_Op) → (List S_api_Leaf) → Int → Int → Int → (KT S_api_Leaf) → (List S_api_Leaf) → (Bool → Prop) → Prop
  | 0, _, _, _, _, _, _, _, _, _ => False
  | k + 1, r102, r103, r104, r105, r106, r107, r108, r109, K0 => (Hold (F_smt_Tree_Len k r106 r107 r108 (fun r110 r111 r112 r113 => (cond (!decide (r110 = ((List.length r104 : Nat) : Int))) (K0 false) ((Hold (F_r05_Sorted k r104 (fun r114 => (Hold (F_l05_same k r109 r114 (fun r115 => (cond (!r115) (K0 false) ((Hold (F_smt_Tree_Root k r111 r112 r113 (fun r116 r117 r118 r119 => (Hold (F_r05_Digest k r102 r104 (0 : Int) (fun r120 => (cond (!(decide (r116 = r120))) (K0 false) ((Hold (C_l05_SmtTrees_39 k r102 r103 r104 r105 (0 : Int) r117 r118 r119 r109 K0)))))))))))))))))))))))
def C_l05_SmtTrees_35 : Nat → Int → (List S_l05_Op) → (List S_api_Leaf) → Int → Int → Int → (KT S_api_Leaf) → (Bool → Prop) → Prop
  | 0, _, _, _, _, _, _, _, _ => False
  | k + 1, r91, r92, r93, r94, r95, r96, r97, K0 => (Hold (F_smt_Tree_Leaves k r95 r96 r97 (fun r98 r99 r100 r101 => (Hold (C_l05_SmtTrees_36 k r91 r92 r93 r94 r98 r99 r100 r101 K0)))))
def C_l05_SmtTrees_22 : Nat → Int → (List S_l05_Op) → Int → (List S_api_Leaf) → Int → Int → Int → (KT S_api_Leaf) → Int → (List S_api_Leaf) → (List Int) → (List S_api_Leaf) → (Bool → Prop) → Prop
  | 0, _, _, _, _, _, _, _, _, _, _, _, _, _ => False
  | k + 1, r74, r75, r76, r77, r78, r79, r80, r81, r82, r83, r84, r85, K0 => (Hold (F_smt_Tree_Set_s1 k r83 r79 r80 r81 (fun r86 r87 r88 r89 => (cond (!decide (r86 = r78)) (K0 false) ((Hold (F_l05_same k r83 r85 (fun r90 => (cond (!r90) (K0 false) ((Hold (C_l05_SmtTrees_35 k r74 r75 r77 r76 r87 r88 r89 K0))))))))))))
def C_l05_SmtTrees_21 : Nat → Int → (List S_l05_Op) → Int → Int → Int → (KT S_api_Leaf) → (List S_api_Leaf) → Int → (List S_api_Leaf) → (List Int) → (List S_api_Leaf) → (Bool → Prop) → Prop
  | 0, _, _, _, _, _, _, _, _, _, _, _, _ => False
  | k + 1, r61, r62, r63, r64, r65, r66, r67, r68, r69, r70, r71, K0 => (Hold (F_r05_Set k r67 r71 (fun r72 r73 => (Hold (C_l05_SmtTrees_22 k r61 r62 r63 r72 r73 r64 r65 r66 r68 r69 r70 r71 K0))) (fun r340 r341 => (Hold (C_l05_SmtTrees_22_1 k r61 r62 r63 r341 r64 r65 r66 r68 r69 r70 r71 r340 K0)))))
def C_l05_SmtTrees_20 : Nat → Int → (List S_l05_Op) → Int → Int → Int → (KT S_api_Leaf) → (List S_api_Leaf) → Int → (List S_api_Leaf) → (List Int) → (Bool → Prop) → Prop
  | 0, _, _, _, _, _, _, _, _, _, _, _ => False
  | k + 1, r50, r51, r52, r53, r54, r55, r56, r57, r58, r59, K0 => (Hold (F_l05_own k r58 (fun r60 => (Hold (C_l05_SmtTrees_21 k r50 r51 r52 r53 r54 r55 r56 r57 r58 r59 r60 K0)))))
def C_l05_SmtTrees_19 : Nat → Int → (List S_l05_Op) → Int → Int → Int → Int → (KT S_api_Leaf) → (List S_api_Leaf) → Int → (List S_api_Leaf) → (List Int) → (Bool → Prop) → Prop
  | 0, _, _, _, _, _, _, _, _, _, _, _, _ => False
  | k + 1, r39, r40, r41, r42, r43, r44, r45, r46, r47, r48, r49, K0 => (cond (decide (r42 = (1 : Int))) ((Hold (C_l05_SmtTrees_20 k r39 r40 r41 r43 r44 r45 r46 r47 r48 r49 K0))) ((Hold (C_l05_SmtTrees_25_1 k r39 r40 r41 r42 r43 r44 r45 r46 r47 r48 r49 K0))))
def C_l05_SmtTrees_18 : Nat → Int → (List S_l05_Op) → Int → Int → Int → (KT S_api_Leaf) → (List S_api_Leaf) → Int → (List S_api_Leaf) → (List Int) → (Bool → Prop) → Prop
  | 0, _, _, _, _, _, _, _, _, _, _, _ => False
  | k + 1, r29, r30, r31, r32, r33, r34, r35, r36, r37, r38, K0 => (Hold (C_l05_SmtTrees_19 k r29 r30 r31 r36 r32 r33 r34 r35 r36 r37 r38 K0))
def C_l05_SmtTrees_17 : Nat → Int → (List S_l05_Op) → Int → Int → Int → (KT S_api_Leaf) → (List S_api_Leaf) → (Bool → Prop) → Prop
  | 0, _, _, _, _, _, _, _, _ => False
  | k + 1, r22, r23, r24, r25, r26, r27, r28, K0 => (0 ≤ r24 ∧ r24 < ((List.length r23 : Nat) : Int)) ∧ (Hold (C_l05_SmtTrees_18 k r22 r23 r24 r25 r26 r27 r28 (List.getD r23 (Int.toNat r24) (S_l05_Op.mk (0 : Int) ([] : List S_api_Leaf) (List.replicate 32 (0 : Int)))).f0 (List.getD r23 (Int.toNat r24) (S_l05_Op.mk (0 : Int) ([] : List S_api_Leaf) (List.replicate 32 (0 : Int)))).f1 (List.getD r23 (Int.toNat r24) (S_l05_Op.mk (0 : Int) ([] : List S_api_Leaf) (List.replicate 32 (0 : Int)))).f2 K0))
def C_l05_SmtTrees_15 : Nat → Int → (List S_l05_Op) → Int → Int → Int → (KT S_api_Leaf) → (List S_api_Leaf) → (Bool → Prop) → Prop
  | 0, _, _, _, _, _, _, _, _ => False
  | k + 1, r15, r16, r17, r18, r19, r20, r21, K0 => (cond (decide (r17 < ((List.length r16 : Nat) : Int))) ((Hold (C_l05_SmtTrees_17 k r15 r16 r17 r18 r19 r20 r21 K0))) ((Hold (F_l05_grows k (fun r397 => (cond r397 ((Hold (F_r05_Width k r15 (fun r398 => K0 r398)))) (K0 false)))))))
end
def C_l05_SmtTrees_5 : Nat → Int → (List S_l05_Op) → Int → Int → (Bool → Prop) → Prop
  | 0, _, _, _, _, _ => False
  | k + 1, r3, r4, r5, r6, K0 => (cond (decide (r6 < ((List.length r4 : Nat) : Int))) ((0 ≤ r6 ∧ r6 < ((List.length r4 : Nat) : Int)) ∧ (cond (decide ((IntKind.i64.wrap ((200 : Int) - r5)) < ((List.length (List.getD r4 (Int.toNat r6) (S_l05_Op.mk (0 : Int) ([] : List S_api_Leaf) (List.replicate 32 (0 : Int)))).f1 : Nat) : Int))) (K0 true) ((0 ≤ r6 ∧ r6 < ((List.length r4 : Nat) : Int)) ∧ (Hold (C_l05_SmtTrees_5 k r3 r4 (IntKind.i64.wrap (r5 + ((List.length (List.getD r4 (Int.toNat r6) (S_l05_Op.mk (0 : Int) ([] : List S_api_Leaf) (List.replicate 32 (0 : Int)))).f1 : Nat) : Int))) (IntKind.i64.wrap (r6 + (1 : Int))) K0))))) ((Hold (F_smt_New k r3 (fun r7 => (Hold (F_l05_grows k (fun r8 => (cond r8 ((cond (decide (r7 = (1 : Int))) ((Hold (F_r05_Width k r3 (fun r9 => K0 (!r9))))) (K0 false))) (K0 false)))))) (fun r10 r11 r12 r13 => (cond (!decide (r10 = (0 : Int))) ((Hold (F_l05_grows k (fun r14 => (cond r14 (K0 false) (K0 false)))))) ((Hold (C_l05_SmtTrees_15 k r3 r4 (0 : Int) r11 r12 r13 [] K0)))))))))
def F_l05_SmtTrees (k : Nat) (r1 : Int) (r2 : (List S_l05_Op)) (K0 : Bool → Prop) : Prop := match k with
  | 0 => False
  | k + 1 => (cond (decide ((60 : Int) < ((List.length r2 : Nat) : Int))) (K0 true) ((Hold (C_l05_SmtTrees_5 k r1 r2 (0 : Int) (0 : Int) K0))))
end Go.V
