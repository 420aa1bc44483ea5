import Derived.Test.YtepdmpjmlfeanaaVSeat
set_option linter.unusedVariables false
namespace Go.V
open Go
structure S_api_Proof where
  f0 : (List (List Int))
  f1 : Bool
  f2 : (List Int)
  f3 : (List Int)
structure S_octet_Reader where
  f0 : (List Int)
def str0 : ByteArray := ⟨#[0, 0]⟩
def F_r06_Own (k : Nat) (r1 : (List (List Int))) (r2 : Bool) (r3 : (List Int)) (r4 : (List Int)) (K0 : (List (List Int)) → Bool → (List Int) → (List Int) → Prop) : Prop := match k with
  | 0 => False
  | k + 1 => (room (List.length r1) 32) ∧ K0 r1 r2 r3 r4
def C_proof_bytes_3 : Nat → (List (List Int)) → Int → Int → (List Int) → ((List Int) → Prop) → Prop
  | 0, _, _, _, _, _ => False
  | k + 1, r3, r4, r5, r6, K0 => (cond (decide (r5 < r4)) ((0 ≤ r5 ∧ r5 < ((List.length r3 : Nat) : Int)) ∧ (0 ≤ (0 : Int) ∧ (0 : Int) ≤ (32 : Int) ∧ (32 : Int) ≤ (32 : Int)) ∧ (room (List.length r6 + List.length (cut (List.getD r3 (Int.toNat r5) (List.replicate 32 (0 : Int))) (Int.toNat (0 : Int)) (Int.toNat ((32 : Int) - (0 : Int))))) 1) ∧ (Hold (C_proof_bytes_3 k r3 r4 (IntKind.i64.wrap (r5 + (1 : Int))) (r6 ++ (cut (List.getD r3 (Int.toNat r5) (List.replicate 32 (0 : Int))) (Int.toNat (0 : Int)) (Int.toNat ((32 : Int) - (0 : Int))))) K0))) (K0 r6))
def F_proof_bytes (k : Nat) (r1 : Int) (r2 : (List (List Int))) (K0 : (List Int) → Prop) : Prop := match k with
  | 0 => False
  | k + 1 => (Hold (C_proof_bytes_3 k r2 ((List.length r2 : Nat) : Int) (0 : Int) [r1] K0))
def F_octet_groups (k : Nat) (r1 : Int) (K0 : Int → Prop) : Prop := match k with
  | 0 => False
  | k + 1 => K0 r1
def F_octet_PutCount_y5 (k : Nat) (r1 : Int) (r2 : (List Int)) (K1 : (List Int) → Prop) : Prop := match k with
  | 0 => False
  | k + 1 => (room (List.length r2 + List.length [r1]) 1 ∧ (r2 = [] ∨ [r1] ≠ [])) ∧ K1 (r2 ++ [r1])
def F_octet_PutCount_y5_s1 (k : Nat) (r1 : Int) (r2 : (List Int)) (K2 : (List Int) → Prop) : Prop := match k with
  | 0 => False
  | k + 1 => (room (List.length r2 + List.length [r1]) 1) ∧ K2 (r2 ++ [r1])
mutual
def C_octet_groups_1_1_1 : Nat → Int → (List Int) → (Int → (List Int) → Prop) → Prop
  | 0, _, _, _ => False
  | k + 1, r10, r11, K0 => ((128 : Int) ≠ 0) ∧ (Hold (F_octet_PutCount_y5_s1 k (IntKind.u8.wrap (IntKind.i64.wrap ((Int.tmod r10 (128 : Int)) + (128 : Int)))) r11 (fun r12 => ((128 : Int) ≠ 0) ∧ (Hold (C_octet_groups_1_0_1 k (IntKind.i64.wrap (Int.tdiv r10 (128 : Int))) r12 K0)))))
def C_octet_groups_1_0_1 : Nat → Int → (List Int) → (Int → (List Int) → Prop) → Prop
  | 0, _, _, _ => False
  | k + 1, r8, r9, K0 => (cond (decide ((128 : Int) ≤ r8)) ((Hold (C_octet_groups_1_1_1 k r8 r9 K0))) ((Hold (F_octet_PutCount_y5_s1 k (IntKind.u8.wrap r8) r9 (fun r13 => K0 r8 r13)))))
end
def C_octet_groups_1_1 : Nat → Int → (List Int) → (Int → (List Int) → Prop) → Prop
  | 0, _, _, _ => False
  | k + 1, r5, r6, K0 => ((128 : Int) ≠ 0) ∧ (Hold (F_octet_PutCount_y5 k (IntKind.u8.wrap (IntKind.i64.wrap ((Int.tmod r5 (128 : Int)) + (128 : Int)))) r6 (fun r7 => ((128 : Int) ≠ 0) ∧ (Hold (C_octet_groups_1_0_1 k (IntKind.i64.wrap (Int.tdiv r5 (128 : Int))) r7 K0)))))
def C_octet_groups_1_0 : Nat → Int → (List Int) → (Int → (List Int) → Prop) → Prop
  | 0, _, _, _ => False
  | k + 1, r3, r4, K0 => (cond (decide ((128 : Int) ≤ r3)) ((Hold (C_octet_groups_1_1 k r3 r4 K0))) ((Hold (F_octet_PutCount_y5 k (IntKind.u8.wrap r3) r4 (fun r14 => K0 r3 r14)))))
def F_octet_groups_1 (k : Nat) (r1 : Int) (r2 : (List Int)) (K0 : Int → (List Int) → Prop) : Prop := match k with
  | 0 => False
  | k + 1 => (Hold (C_octet_groups_1_0 k r1 r2 K0))
def F_octet_PutCount (k : Nat) (r1 : (List Int)) (r2 : Int) (K0 : (List Int) → Int → Prop) : Prop := match k with
  | 0 => False
  | k + 1 => (cond (decide (r2 < (0 : Int))) (K0 [] (1 : Int)) ((cond (decide ((2147483647 : Int) < r2)) (K0 [] (1 : Int)) ((0 ≤ (0 : Int) ∧ (0 : Int) ≤ ((List.length r1 : Nat) : Int) ∧ ((List.length r1 : Nat) : Int) = ((List.length r1 : Nat) : Int) ∧ ((List.length r1 : Nat) : Int) ≤ ((List.length r1 : Nat) : Int)) ∧ (Hold (F_octet_groups k r2 (fun r3 => (Hold (F_octet_groups_1 k r3 (cut r1 (Int.toNat (0 : Int)) (Int.toNat (((List.length r1 : Nat) : Int) - (0 : Int)))) (fun r4 r5 => K0 r5 (0 : Int)))))))))))
def F_octet_PutDigest (k : Nat) (r1 : (List Int)) (r2 : (List Int)) (K0 : (List Int) → Prop) : Prop := match k with
  | 0 => False
  | k + 1 => (0 ≤ (0 : Int) ∧ (0 : Int) ≤ ((List.length r1 : Nat) : Int) ∧ ((List.length r1 : Nat) : Int) = ((List.length r1 : Nat) : Int) ∧ ((List.length r1 : Nat) : Int) ≤ ((List.length r1 : Nat) : Int)) ∧ (0 ≤ (0 : Int) ∧ (0 : Int) ≤ (32 : Int) ∧ (32 : Int) ≤ (32 : Int)) ∧ (room (List.length (cut r1 (Int.toNat (0 : Int)) (Int.toNat (((List.length r1 : Nat) : Int) - (0 : Int)))) + List.length (cut r2 (Int.toNat (0 : Int)) (Int.toNat ((32 : Int) - (0 : Int))))) 1 ∧ ((cut r1 (Int.toNat (0 : Int)) (Int.toNat (((List.length r1 : Nat) : Int) - (0 : Int)))) = [] ∨ (cut r2 (Int.toNat (0 : Int)) (Int.toNat ((32 : Int) - (0 : Int)))) ≠ [])) ∧ K0 ((cut r1 (Int.toNat (0 : Int)) (Int.toNat (((List.length r1 : Nat) : Int) - (0 : Int)))) ++ (cut r2 (Int.toNat (0 : Int)) (Int.toNat ((32 : Int) - (0 : Int)))))
def C_proof_Put_9 : Nat → (List (List Int)) → Int → Int → (List Int) → ((List Int) → Int → Prop) → Prop
  | 0, _, _, _, _, _ => False
  | k + 1, r18, r19, r20, r21, K0 => (cond (decide (r20 < r19)) ((0 ≤ r20 ∧ r20 < ((List.length r18 : Nat) : Int)) ∧ (Hold (F_octet_PutDigest k r21 (List.getD r18 (Int.toNat r20) (List.replicate 32 (0 : Int))) (fun r22 => (Hold (C_proof_Put_9 k r18 r19 (IntKind.i64.wrap (r20 + (1 : Int))) r22 K0)))))) (K0 r21 (0 : Int)))
def C_proof_Put_7 : Nat → (List (List Int)) → Bool → (List Int) → (List Int) → (List Int) → ((List Int) → Int → Prop) → Prop
  | 0, _, _, _, _, _, _ => False
  | k + 1, r11, r12, r13, r14, r15, K0 => (Hold (F_octet_PutCount k r15 ((List.length r11 : Nat) : Int) (fun r16 r17 => (Hold (C_proof_Put_9 k r11 ((List.length r11 : Nat) : Int) (0 : Int) r16 K0)))))
def C_proof_Put_2 : Nat → Bool → (List (List Int)) → Bool → (List Int) → (List Int) → ((List Int) → Int → Prop) → Prop
  | 0, _, _, _, _, _, _ => False
  | k + 1, r5, r6, r7, r8, r9, K0 => (cond (decide ((256 : Int) < ((List.length r6 : Nat) : Int))) (K0 [] (40 : Int)) ((cond (!r7) ((cond (!r5) (K0 [] (40 : Int)) ((cond r7 ((Hold (F_proof_bytes k (1 : Int) [r8, r9] (fun r10 => (Hold (C_proof_Put_7 k r6 r7 r8 r9 r10 K0)))))) ((Hold (C_proof_Put_7 k r6 r7 r8 r9 [(0 : Int)] K0))))))) ((cond r7 ((Hold (F_proof_bytes k (1 : Int) [r8, r9] (fun r23 => (Hold (C_proof_Put_7 k r6 r7 r8 r9 r23 K0)))))) ((Hold (C_proof_Put_7 k r6 r7 r8 r9 [(0 : Int)] K0))))))))
def F_proof_Put (k : Nat) (r1 : (List (List Int))) (r2 : Bool) (r3 : (List Int)) (r4 : (List Int)) (K0 : (List Int) → Int → Prop) : Prop := match k with
  | 0 => False
  | k + 1 => (cond (decide (r3 = [(0 : Int), (0 : Int), (0 : Int), (0 : Int), (0 : Int), (0 : Int), (0 : Int), (0 : Int), (0 : Int), (0 : Int), (0 : Int), (0 : Int), (0 : Int), (0 : Int), (0 : Int), (0 : Int), (0 : Int), (0 : Int), (0 : Int), (0 : Int), (0 : Int), (0 : Int), (0 : Int), (0 : Int), (0 : Int), (0 : Int), (0 : Int), (0 : Int), (0 : Int), (0 : Int), (0 : Int), (0 : Int)])) ((Hold (C_proof_Put_2 k (decide (r4 = [(0 : Int), (0 : Int), (0 : Int), (0 : Int), (0 : Int), (0 : Int), (0 : Int), (0 : Int), (0 : Int), (0 : Int), (0 : Int), (0 : Int), (0 : Int), (0 : Int), (0 : Int), (0 : Int), (0 : Int), (0 : Int), (0 : Int), (0 : Int), (0 : Int), (0 : Int), (0 : Int), (0 : Int), (0 : Int), (0 : Int), (0 : Int), (0 : Int), (0 : Int), (0 : Int), (0 : Int), (0 : Int)])) r1 r2 r3 r4 K0))) ((Hold (C_proof_Put_2 k false r1 r2 r3 r4 K0))))
def F_r06_plain (k : Nat) (r1 : (List (List Int))) (r2 : Bool) (r3 : (List Int)) (r4 : (List Int)) (K0 : Bool → Prop) : Prop := match k with
  | 0 => False
  | k + 1 => (cond r2 (K0 true) ((cond (decide (r3 = [(0 : Int), (0 : Int), (0 : Int), (0 : Int), (0 : Int), (0 : Int), (0 : Int), (0 : Int), (0 : Int), (0 : Int), (0 : Int), (0 : Int), (0 : Int), (0 : Int), (0 : Int), (0 : Int), (0 : Int), (0 : Int), (0 : Int), (0 : Int), (0 : Int), (0 : Int), (0 : Int), (0 : Int), (0 : Int), (0 : Int), (0 : Int), (0 : Int), (0 : Int), (0 : Int), (0 : Int), (0 : Int)])) (K0 (decide (r4 = [(0 : Int), (0 : Int), (0 : Int), (0 : Int), (0 : Int), (0 : Int), (0 : Int), (0 : Int), (0 : Int), (0 : Int), (0 : Int), (0 : Int), (0 : Int), (0 : Int), (0 : Int), (0 : Int), (0 : Int), (0 : Int), (0 : Int), (0 : Int), (0 : Int), (0 : Int), (0 : Int), (0 : Int), (0 : Int), (0 : Int), (0 : Int), (0 : Int), (0 : Int), (0 : Int), (0 : Int), (0 : Int)]))) (K0 false))))
def F_r01_Groups : Nat → Int → ((List Int) → Prop) → Prop
  | 0, _, _ => False
  | k + 1, r1, K0 => (cond (decide (r1 < (128 : Int))) (K0 [(IntKind.u8.wrap r1)]) (((128 : Int) ≠ 0) ∧ ((128 : Int) ≠ 0) ∧ (Hold (F_r01_Groups k (IntKind.i64.wrap (Int.tdiv r1 (128 : Int))) (fun r2 => (room (List.length [(IntKind.u8.wrap (IntKind.i64.wrap ((128 : Int) + (Int.tmod r1 (128 : Int)))))] + List.length r2) 1) ∧ K0 ([(IntKind.u8.wrap (IntKind.i64.wrap ((128 : Int) + (Int.tmod r1 (128 : Int)))))] ++ r2))))))
def C_r06_Put_11 : Nat → Int → (List (List Int)) → Bool → (List Int) → (List Int) → (List Int) → ((List Int) → Int → Prop) → Prop
  | 0, _, _, _, _, _, _, _ => False
  | k + 1, r12, r13, r14, r15, r16, r17, K0 => (cond (decide (r12 < ((List.length r13 : Nat) : Int))) ((0 ≤ r12 ∧ r12 < ((List.length r13 : Nat) : Int)) ∧ (room (List.length r17 + List.length (List.getD r13 (Int.toNat r12) (List.replicate 32 (0 : Int)))) 1) ∧ (Hold (C_r06_Put_11 k (IntKind.i64.wrap (r12 + (1 : Int))) r13 r14 r15 r16 (r17 ++ (List.getD r13 (Int.toNat r12) (List.replicate 32 (0 : Int)))) K0))) (K0 r17 (0 : Int)))
def C_r06_Put_8 : Nat → (List (List Int)) → Bool → (List Int) → (List Int) → (List Int) → ((List Int) → Int → Prop) → Prop
  | 0, _, _, _, _, _, _ => False
  | k + 1, r6, r7, r8, r9, r10, K0 => (Hold (F_r01_Groups k ((List.length r6 : Nat) : Int) (fun r11 => (room (List.length r10 + List.length r11) 1) ∧ (Hold (C_r06_Put_11 k (0 : Int) r6 r7 r8 r9 (r10 ++ r11) K0)))))
def F_r06_Put (k : Nat) (r1 : (List (List Int))) (r2 : Bool) (r3 : (List Int)) (r4 : (List Int)) (K0 : (List Int) → Int → Prop) : Prop := match k with
  | 0 => False
  | k + 1 => (cond (decide ((256 : Int) < ((List.length r1 : Nat) : Int))) (K0 [] (40 : Int)) ((Hold (F_r06_plain k r1 r2 r3 r4 (fun r5 => (cond (!r5) (K0 [] (40 : Int)) ((cond r2 ((0 ≤ (0 : Int) ∧ (0 : Int) < ((List.length [(0 : Int)] : Nat) : Int)) ∧ (0 ≤ (0 : Int) ∧ (0 : Int) ≤ (32 : Int) ∧ (32 : Int) ≤ (32 : Int)) ∧ (room (List.length (List.set [(0 : Int)] (Int.toNat (0 : Int)) (1 : Int)) + List.length (cut r3 (Int.toNat (0 : Int)) (Int.toNat ((32 : Int) - (0 : Int))))) 1) ∧ (0 ≤ (0 : Int) ∧ (0 : Int) ≤ (32 : Int) ∧ (32 : Int) ≤ (32 : Int)) ∧ (room (List.length ((List.set [(0 : Int)] (Int.toNat (0 : Int)) (1 : Int)) ++ (cut r3 (Int.toNat (0 : Int)) (Int.toNat ((32 : Int) - (0 : Int))))) + List.length (cut r4 (Int.toNat (0 : Int)) (Int.toNat ((32 : Int) - (0 : Int))))) 1) ∧ (Hold (C_r06_Put_8 k r1 r2 r3 r4 (((List.set [(0 : Int)] (Int.toNat (0 : Int)) (1 : Int)) ++ (cut r3 (Int.toNat (0 : Int)) (Int.toNat ((32 : Int) - (0 : Int))))) ++ (cut r4 (Int.toNat (0 : Int)) (Int.toNat ((32 : Int) - (0 : Int))))) K0))) ((Hold (C_r06_Put_8 k r1 r2 r3 r4 [(0 : Int)] K0)))))))))))
def C_r06_Same_4 : Nat → Int → (List (List Int)) → Bool → (List Int) → (List Int) → (List (List Int)) → Bool → (List Int) → (List Int) → (Bool → Prop) → Prop
  | 0, _, _, _, _, _, _, _, _, _, _ => False
  | k + 1, r9, r10, r11, r12, r13, r14, r15, r16, r17, K0 => (cond (decide (r9 < ((List.length r10 : Nat) : Int))) ((0 ≤ r9 ∧ r9 < ((List.length r10 : Nat) : Int)) ∧ (0 ≤ r9 ∧ r9 < ((List.length r14 : Nat) : Int)) ∧ (cond (!(decide ((List.getD r10 (Int.toNat r9) (List.replicate 32 (0 : Int))) = (List.getD r14 (Int.toNat r9) (List.replicate 32 (0 : Int)))))) (K0 false) ((Hold (C_r06_Same_4 k (IntKind.i64.wrap (r9 + (1 : Int))) r10 r11 r12 r13 r14 r15 r16 r17 K0))))) (K0 true))
def F_r06_Same (k : Nat) (r1 : (List (List Int))) (r2 : Bool) (r3 : (List Int)) (r4 : (List Int)) (r5 : (List (List Int))) (r6 : Bool) (r7 : (List Int)) (r8 : (List Int)) (K0 : Bool → Prop) : Prop := match k with
  | 0 => False
  | k + 1 => (cond (!(r2 == r6)) (K0 false) ((cond (!(decide (r3 = r7))) (K0 false) ((cond (!(decide (r4 = r8))) (K0 false) ((cond (!decide (((List.length r1 : Nat) : Int) = ((List.length r5 : Nat) : Int))) (K0 false) ((Hold (C_r06_Same_4 k (0 : Int) r1 r2 r3 r4 r5 r6 r7 r8 K0))))))))))
def F_octet_New (k : Nat) (r1 : (List Int)) (K0 : (List Int) → Prop) : Prop := match k with
  | 0 => False
  | k + 1 => K0 r1
def F_octet_Reader_Digest (k : Nat) (r1 : (List Int)) (K0 : (List Int) → Int → (List Int) → Prop) : Prop := match k with
  | 0 => False
  | k + 1 => (cond (decide (((List.length r1 : Nat) : Int) < (32 : Int))) (K0 (List.replicate 32 (0 : Int)) (10 : Int) r1) ((0 ≤ (0 : Int) ∧ (0 : Int) ≤ (32 : Int) ∧ (32 : Int) ≤ (32 : Int)) ∧ (0 ≤ (32 : Int) ∧ (32 : Int) ≤ ((List.length r1 : Nat) : Int)) ∧ K0 (splice (List.replicate 32 (0 : Int)) (Int.toNat (0 : Int)) r1 (Nat.min (List.length r1) (Int.toNat ((32 : Int) - (0 : Int))))) (0 : Int) (List.drop (Int.toNat (32 : Int)) r1)))
def C_octet_Reader_peek_4 : Nat → Int → (List Int) → Int → Int → (List Int) → (Int → Int → Int → (List Int) → Prop) → Prop
  | 0, _, _, _, _, _, _ => False
  | k + 1, r2, r3, r4, r5, r6, K0 => (cond (decide (r5 < r4)) ((0 ≤ r5 ∧ r5 < ((List.length r3 : Nat) : Int)) ∧ (0 ≤ (IntKind.i64.wrap ((7 : Int) * r5))) ∧ (cond (decide ((128 : Int) ≤ (List.getD r3 (Int.toNat r5) (0 : Int)))) ((Hold (C_octet_Reader_peek_4 k (ior .i64 r2 (ishl .i64 (IntKind.i64.wrap (iand .u8 (List.getD r3 (Int.toNat r5) (0 : Int)) (127 : Int))) (IntKind.i64.wrap ((7 : Int) * r5)))) r3 r4 (IntKind.i64.wrap (r5 + (1 : Int))) r6 K0))) ((cond (decide ((List.getD r3 (Int.toNat r5) (0 : Int)) = (0 : Int))) ((cond (decide ((0 : Int) < r5)) (K0 (0 : Int) (0 : Int) (11 : Int) r6) ((cond (decide ((2147483647 : Int) < (ior .i64 r2 (ishl .i64 (IntKind.i64.wrap (iand .u8 (List.getD r3 (Int.toNat r5) (0 : Int)) (127 : Int))) (IntKind.i64.wrap ((7 : Int) * r5)))))) (K0 (0 : Int) (0 : Int) (11 : Int) r6) (K0 (ior .i64 r2 (ishl .i64 (IntKind.i64.wrap (iand .u8 (List.getD r3 (Int.toNat r5) (0 : Int)) (127 : Int))) (IntKind.i64.wrap ((7 : Int) * r5)))) (IntKind.i64.wrap (r5 + (1 : Int))) (0 : Int) r6))))) ((cond (decide ((2147483647 : Int) < (ior .i64 r2 (ishl .i64 (IntKind.i64.wrap (iand .u8 (List.getD r3 (Int.toNat r5) (0 : Int)) (127 : Int))) (IntKind.i64.wrap ((7 : Int) * r5)))))) (K0 (0 : Int) (0 : Int) (11 : Int) r6) (K0 (ior .i64 r2 (ishl .i64 (IntKind.i64.wrap (iand .u8 (List.getD r3 (Int.toNat r5) (0 : Int)) (127 : Int))) (IntKind.i64.wrap ((7 : Int) * r5)))) (IntKind.i64.wrap (r5 + (1 : Int))) (0 : Int) r6))))))) ((cond (decide (((List.length r6 : Nat) : Int) < (5 : Int))) (K0 (0 : Int) (0 : Int) (10 : Int) r6) (K0 (0 : Int) (0 : Int) (11 : Int) r6))))
def F_octet_Reader_peek (k : Nat) (r1 : (List Int)) (K0 : Int → Int → Int → (List Int) → Prop) : Prop := match k with
  | 0 => False
  | k + 1 => (0 ≤ (minI (5 : Int) ((List.length r1 : Nat) : Int)) ∧ (minI (5 : Int) ((List.length r1 : Nat) : Int)) ≤ ((List.length r1 : Nat) : Int)) ∧ (Hold (C_octet_Reader_peek_4 k (0 : Int) (List.take (Int.toNat (minI (5 : Int) ((List.length r1 : Nat) : Int))) r1) ((List.length (List.take (Int.toNat (minI (5 : Int) ((List.length r1 : Nat) : Int))) r1) : Nat) : Int) (0 : Int) r1 K0))
def F_octet_Reader_Count (k : Nat) (r1 : (List Int)) (K0 : Int → Int → (List Int) → Prop) : Prop := match k with
  | 0 => False
  | k + 1 => (Hold (F_octet_Reader_peek k r1 (fun r2 r3 r4 r5 => (cond (decide (r4 = (0 : Int))) ((0 ≤ r3 ∧ r3 ≤ ((List.length r5 : Nat) : Int)) ∧ K0 r2 r4 (List.drop (Int.toNat r3) r5)) (K0 r2 r4 r5)))))
def F_octet_Reader_Left (k : Nat) (r1 : (List Int)) (K0 : Int → (List Int) → Prop) : Prop := match k with
  | 0 => False
  | k + 1 => K0 ((List.length r1 : Nat) : Int) r1
def C_proof_Get_16 : Nat → Int → Int → Bool → (List Int) → (List Int) → Bool → (List Int) → (List Int) → (List Int) → (List (List Int)) → (List (List Int)) → ((List (List Int)) → Bool → (List Int) → (List Int) → Int → Prop) → Prop
  | 0, _, _, _, _, _, _, _, _, _, _, _, _ => False
  | k + 1, r23, r24, r25, r26, r27, r28, r29, r30, r31, r32, r33, K0 => (cond (decide (r24 < r23)) ((Hold (F_octet_Reader_Digest k r31 (fun r34 r35 r36 => (room (List.length r33 + List.length [r34]) 32) ∧ (Hold (C_proof_Get_16 k r23 (IntKind.i64.wrap (r24 + (1 : Int))) r25 r26 r27 r28 r29 r30 r36 r32 (r33 ++ [r34]) K0)))))) (K0 r33 r28 r29 r30 (0 : Int)))
def C_proof_Get_12 : Nat → Bool → (List Int) → (List Int) → Bool → (List Int) → (List Int) → (List Int) → (List (List Int)) → (List (List Int)) → ((List (List Int)) → Bool → (List Int) → (List Int) → Int → Prop) → Prop
  | 0, _, _, _, _, _, _, _, _, _, _ => False
  | k + 1, r9, r10, r11, r12, r13, r14, r15, r16, r17, K0 => (Hold (F_octet_Reader_Count k r15 (fun r18 r19 r20 => (cond (!decide (r19 = (0 : Int))) (K0 [] false (List.replicate 32 (0 : Int)) (List.replicate 32 (0 : Int)) (40 : Int)) ((cond (decide ((256 : Int) < r18)) (K0 [] false (List.replicate 32 (0 : Int)) (List.replicate 32 (0 : Int)) (40 : Int)) ((Hold (F_octet_Reader_Left k r20 (fun r21 r22 => (cond (!decide (r21 = (IntKind.i64.wrap (r18 * (32 : Int))))) (K0 [] false (List.replicate 32 (0 : Int)) (List.replicate 32 (0 : Int)) (40 : Int)) ((Hold (C_proof_Get_16 k r18 (0 : Int) r9 r10 r11 r12 r13 r14 r22 r16 r17 K0))))))))))))))
def F_proof_Get (k : Nat) (r1 : (List Int)) (K0 : (List (List Int)) → Bool → (List Int) → (List Int) → Int → Prop) : Prop := match k with
  | 0 => False
  | k + 1 => (cond (decide (((List.length r1 : Nat) : Int) = (0 : Int))) (K0 [] false (List.replicate 32 (0 : Int)) (List.replicate 32 (0 : Int)) (40 : Int)) ((0 ≤ (0 : Int) ∧ (0 : Int) < ((List.length r1 : Nat) : Int)) ∧ (cond (decide ((1 : Int) < (List.getD r1 (Int.toNat (0 : Int)) (0 : Int)))) (K0 [] false (List.replicate 32 (0 : Int)) (List.replicate 32 (0 : Int)) (40 : Int)) ((0 ≤ (0 : Int) ∧ (0 : Int) < ((List.length r1 : Nat) : Int)) ∧ (0 ≤ (1 : Int) ∧ (1 : Int) ≤ ((List.length r1 : Nat) : Int)) ∧ (Hold (F_octet_New k (List.drop (Int.toNat (1 : Int)) r1) (fun r2 => (cond (decide ((List.getD r1 (Int.toNat (0 : Int)) (0 : Int)) = (1 : Int))) ((Hold (F_octet_Reader_Digest k r2 (fun r3 r4 r5 => (Hold (F_octet_Reader_Digest k r5 (fun r6 r7 r8 => (cond (!decide (r7 = (0 : Int))) (K0 [] false (List.replicate 32 (0 : Int)) (List.replicate 32 (0 : Int)) (40 : Int)) ((Hold (C_proof_Get_12 k false (List.replicate 32 (0 : Int)) (List.replicate 32 (0 : Int)) (decide ((List.getD r1 (Int.toNat (0 : Int)) (0 : Int)) = (1 : Int))) r3 r6 r8 [] [] K0))))))))))) ((Hold (C_proof_Get_12 k false (List.replicate 32 (0 : Int)) (List.replicate 32 (0 : Int)) (decide ((List.getD r1 (Int.toNat (0 : Int)) (0 : Int)) = (1 : Int))) (List.replicate 32 (0 : Int)) (List.replicate 32 (0 : Int)) r2 [] [] K0)))))))))))
def F_l06_puts (k : Nat)  (K0 : Bool → Prop) : Prop := match k with
  | 0 => False
  | k + 1 => (Hold (F_proof_Put k [] false (List.replicate 32 (0 : Int)) (List.replicate 32 (0 : Int)) (fun r1 r2 => (Hold (F_proof_Get k [(0 : Int), (0 : Int)] (fun r3 r4 r5 r6 r7 => (Hold (F_proof_Get k [(0 : Int)] (fun r8 r9 r10 r11 r12 => (cond (decide (r2 = (0 : Int))) ((cond (seq (bytesOf r1) str0) ((cond (decide (r7 = (0 : Int))) ((cond (decide (((List.length r3 : Nat) : Int) = (0 : Int))) (K0 (decide (r12 = (40 : Int)))) (K0 false))) (K0 false))) (K0 false))) (K0 false)))))))))))
def F_l06_ProofPuts (k : Nat) (r1 : (List (List Int))) (r2 : Bool) (r3 : (List Int)) (r4 : (List Int)) (K0 : Bool → Prop) : Prop := match k with
  | 0 => False
  | k + 1 => (cond (decide ((1000 : Int) < ((List.length r1 : Nat) : Int))) (K0 true) ((Hold (F_r06_Own k r1 r2 r3 r4 (fun r5 r6 r7 r8 => (Hold (F_proof_Put k r1 r2 r3 r4 (fun r9 r10 => (Hold (F_r06_Put k r5 r6 r7 r8 (fun r11 r12 => (cond (!decide (r10 = r12)) (K0 false) ((cond (!seq (bytesOf r9) (bytesOf r11)) (K0 false) ((Hold (F_r06_Same k r1 r2 r3 r4 r5 r6 r7 r8 (fun r13 => (cond (!r13) (K0 false) ((cond (!decide (r10 = (0 : Int))) ((Hold (F_l06_puts k (fun r14 => K0 r14)))) ((Hold (F_proof_Get k r9 (fun r15 r16 r17 r18 r19 => (Hold (F_l06_puts k (fun r20 => (cond r20 ((cond (decide (r19 = (0 : Int))) ((Hold (F_r06_Same k r1 r2 r3 r4 r15 r16 r17 r18 (fun r21 => K0 r21)))) (K0 false))) (K0 false))))))))))))))))))))))))))))))
def C_r01_ReadDigest_5 : Nat → (List Int) → Int → (List Int) → (List Int) → ((List Int) → Int → Int → Prop) → Prop
  | 0, _, _, _, _, _ => False
  | k + 1, r2, r3, r4, r5, K0 => (cond (decide (r3 < (32 : Int))) ((0 ≤ r3 ∧ r3 < ((List.length r2 : Nat) : Int)) ∧ (0 ≤ r3 ∧ r3 < (32 : Int)) ∧ (Hold (C_r01_ReadDigest_5 k r2 (IntKind.i64.wrap (r3 + (1 : Int))) r4 (List.set r5 (Int.toNat r3) (List.getD r2 (Int.toNat r3) (0 : Int))) K0))) (K0 r5 (32 : Int) (0 : Int)))
def F_r01_ReadDigest (k : Nat) (r1 : (List Int)) (K0 : (List Int) → Int → Int → Prop) : Prop := match k with
  | 0 => False
  | k + 1 => (cond (decide (((List.length r1 : Nat) : Int) < (32 : Int))) (K0 (List.replicate 32 (0 : Int)) (0 : Int) (10 : Int)) ((Hold (C_r01_ReadDigest_5 k r1 (0 : Int) (List.replicate 32 (0 : Int)) (List.replicate 32 (0 : Int)) K0))))
def C_r01_ReadCount_4 : Nat → (List Int) → Int → Int → Int → (Int → Int → Int → Prop) → Prop
  | 0, _, _, _, _, _ => False
  | k + 1, r2, r3, r4, r5, K0 => (cond (decide (r5 < (5 : Int))) ((cond (decide (((List.length r2 : Nat) : Int) ≤ r5)) (K0 (0 : Int) (0 : Int) (10 : Int)) ((0 ≤ r5 ∧ r5 < ((List.length r2 : Nat) : Int)) ∧ ((128 : Int) ≠ 0) ∧ (0 ≤ r5 ∧ r5 < ((List.length r2 : Nat) : Int)) ∧ (cond (decide ((128 : Int) ≤ (List.getD r2 (Int.toNat r5) (0 : Int)))) ((Hold (C_r01_ReadCount_4 k r2 (IntKind.i64.wrap (r3 + (IntKind.i64.wrap ((IntKind.i64.wrap (Int.tmod (List.getD r2 (Int.toNat r5) (0 : Int)) (128 : Int))) * r4)))) (IntKind.i64.wrap (r4 * (128 : Int))) (IntKind.i64.wrap (r5 + (1 : Int))) K0))) ((cond (decide ((0 : Int) < r5)) ((0 ≤ r5 ∧ r5 < ((List.length r2 : Nat) : Int)) ∧ (cond (decide ((List.getD r2 (Int.toNat r5) (0 : Int)) = (0 : Int))) (K0 (0 : Int) (0 : Int) (11 : Int)) ((cond (decide ((2147483647 : Int) < (IntKind.i64.wrap (r3 + (IntKind.i64.wrap ((IntKind.i64.wrap (Int.tmod (List.getD r2 (Int.toNat r5) (0 : Int)) (128 : Int))) * r4)))))) (K0 (0 : Int) (0 : Int) (11 : Int)) (K0 (IntKind.i64.wrap (r3 + (IntKind.i64.wrap ((IntKind.i64.wrap (Int.tmod (List.getD r2 (Int.toNat r5) (0 : Int)) (128 : Int))) * r4)))) (IntKind.i64.wrap (r5 + (1 : Int))) (0 : Int)))))) ((cond (decide ((2147483647 : Int) < (IntKind.i64.wrap (r3 + (IntKind.i64.wrap ((IntKind.i64.wrap (Int.tmod (List.getD r2 (Int.toNat r5) (0 : Int)) (128 : Int))) * r4)))))) (K0 (0 : Int) (0 : Int) (11 : Int)) (K0 (IntKind.i64.wrap (r3 + (IntKind.i64.wrap ((IntKind.i64.wrap (Int.tmod (List.getD r2 (Int.toNat r5) (0 : Int)) (128 : Int))) * r4)))) (IntKind.i64.wrap (r5 + (1 : Int))) (0 : Int)))))))))) (K0 (0 : Int) (0 : Int) (11 : Int)))
def F_r01_ReadCount (k : Nat) (r1 : (List Int)) (K0 : Int → Int → Int → Prop) : Prop := match k with
  | 0 => False
  | k + 1 => (Hold (C_r01_ReadCount_4 k r1 (0 : Int) (1 : Int) (0 : Int) K0))
def C_r06_Get_20 : Nat → (List Int) → Int → Int → Int → Bool → (List Int) → (List Int) → Bool → (List Int) → (List Int) → (List (List Int)) → (List (List Int)) → ((List (List Int)) → Bool → (List Int) → (List Int) → Int → Prop) → Prop
  | 0, _, _, _, _, _, _, _, _, _, _, _, _, _ => False
  | k + 1, r25, r26, r27, r28, r29, r30, r31, r32, r33, r34, r35, r36, K0 => (cond (decide (r28 < r27)) ((0 ≤ r26 ∧ r26 ≤ ((List.length r25 : Nat) : Int)) ∧ (Hold (F_r01_ReadDigest k (List.drop (Int.toNat r26) r25) (fun r37 r38 r39 => (room (List.length r36 + List.length [r37]) 32) ∧ (Hold (C_r06_Get_20 k r25 (IntKind.i64.wrap (r26 + r38)) r27 (IntKind.i64.wrap (r28 + (1 : Int))) r29 r30 r31 r32 r33 r34 r35 (r36 ++ [r37]) K0)))))) (K0 r36 r32 r33 r34 (0 : Int)))
def C_r06_Get_15 : Nat → (List Int) → Int → Bool → (List Int) → (List Int) → Bool → (List Int) → (List Int) → Bool → (List Int) → (List Int) → (List (List Int)) → (List (List Int)) → (List (List Int)) → ((List (List Int)) → Bool → (List Int) → (List Int) → Int → Prop) → Prop
  | 0, _, _, _, _, _, _, _, _, _, _, _, _, _, _, _ => False
  | k + 1, r8, r9, r10, r11, r12, r13, r14, r15, r16, r17, r18, r19, r20, r21, K0 => (0 ≤ r9 ∧ r9 ≤ ((List.length r8 : Nat) : Int)) ∧ (Hold (F_r01_ReadCount k (List.drop (Int.toNat r9) r8) (fun r22 r23 r24 => (cond (!decide (r24 = (0 : Int))) (K0 r21 r16 r17 r18 (40 : Int)) ((cond (decide ((256 : Int) < r22)) (K0 r21 r16 r17 r18 (40 : Int)) ((cond (!decide ((IntKind.i64.wrap (((List.length r8 : Nat) : Int) - (IntKind.i64.wrap (r9 + r23)))) = (IntKind.i64.wrap ((32 : Int) * r22)))) (K0 r21 r16 r17 r18 (40 : Int)) ((Hold (C_r06_Get_20 k r8 (IntKind.i64.wrap (r9 + r23)) r22 (0 : Int) r10 r11 r12 r13 r14 r15 r19 r20 K0)))))))))))
def F_r06_Get (k : Nat) (r1 : (List Int)) (K0 : (List (List Int)) → Bool → (List Int) → (List Int) → Int → Prop) : Prop := match k with
  | 0 => False
  | k + 1 => (cond (decide (((List.length r1 : Nat) : Int) = (0 : Int))) (K0 [] false (List.replicate 32 (0 : Int)) (List.replicate 32 (0 : Int)) (40 : Int)) ((0 ≤ (0 : Int) ∧ (0 : Int) < ((List.length r1 : Nat) : Int)) ∧ (cond (decide ((1 : Int) < (List.getD r1 (Int.toNat (0 : Int)) (0 : Int)))) (K0 [] false (List.replicate 32 (0 : Int)) (List.replicate 32 (0 : Int)) (40 : Int)) ((0 ≤ (0 : Int) ∧ (0 : Int) < ((List.length r1 : Nat) : Int)) ∧ (cond (decide ((List.getD r1 (Int.toNat (0 : Int)) (0 : Int)) = (1 : Int))) ((0 ≤ (1 : Int) ∧ (1 : Int) ≤ ((List.length r1 : Nat) : Int)) ∧ (Hold (F_r01_ReadDigest k (List.drop (Int.toNat (1 : Int)) r1) (fun r2 r3 r4 => (0 ≤ (IntKind.i64.wrap ((1 : Int) + r3)) ∧ (IntKind.i64.wrap ((1 : Int) + r3)) ≤ ((List.length r1 : Nat) : Int)) ∧ (Hold (F_r01_ReadDigest k (List.drop (Int.toNat (IntKind.i64.wrap ((1 : Int) + r3))) r1) (fun r5 r6 r7 => (cond (!decide (r4 = (0 : Int))) (K0 [] false (List.replicate 32 (0 : Int)) (List.replicate 32 (0 : Int)) (40 : Int)) ((cond (!decide (r7 = (0 : Int))) (K0 [] false (List.replicate 32 (0 : Int)) (List.replicate 32 (0 : Int)) (40 : Int)) ((Hold (C_r06_Get_15 k r1 (IntKind.i64.wrap ((IntKind.i64.wrap ((1 : Int) + r3)) + r6)) false (List.replicate 32 (0 : Int)) (List.replicate 32 (0 : Int)) true r2 r5 false (List.replicate 32 (0 : Int)) (List.replicate 32 (0 : Int)) [] [] [] K0))))))))))))) ((Hold (C_r06_Get_15 k r1 (1 : Int) false (List.replicate 32 (0 : Int)) (List.replicate 32 (0 : Int)) false (List.replicate 32 (0 : Int)) (List.replicate 32 (0 : Int)) false (List.replicate 32 (0 : Int)) (List.replicate 32 (0 : Int)) [] [] [] K0))))))))
def F_l06_ProofGets (k : Nat) (r1 : (List Int)) (K0 : Bool → Prop) : Prop := match k with
  | 0 => False
  | k + 1 => (cond (decide ((65536 : Int) < ((List.length r1 : Nat) : Int))) (K0 true) ((Hold (F_proof_Get k r1 (fun r2 r3 r4 r5 r6 => (Hold (F_r06_Get k r1 (fun r7 r8 r9 r10 r11 => (cond (!decide (r6 = r11)) (K0 false) ((Hold (F_r06_Same k r2 r3 r4 r5 r7 r8 r9 r10 (fun r12 => (cond (!r12) (K0 false) ((cond (!decide (r6 = (0 : Int))) ((Hold (F_l06_puts k (fun r13 => (cond r13 (K0 (decide (r6 = (40 : Int)))) (K0 false)))))) ((Hold (F_proof_Put k r2 r3 r4 r5 (fun r14 r15 => (Hold (F_l06_puts k (fun r16 => (cond r16 ((cond (decide (r15 = (0 : Int))) (K0 (seq (bytesOf r14) (bytesOf r1))) (K0 false))) (K0 false)))))))))))))))))))))))))
end Go.V
