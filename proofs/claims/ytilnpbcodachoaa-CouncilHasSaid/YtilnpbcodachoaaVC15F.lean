import Derived.Test.YtilnpbcodachoaaVSeat
set_option linter.unusedVariables false
namespace Go.V
open Go
structure S23 where
  f0 : (List Int)
  f1 : (List Int)
structure S26 where
  f0 : Int
  f1 : Int
def str0 : ByteArray := ⟨#[0, 1, 1, 2, 1, 2, 2, 3, 1, 2, 2, 3, 2, 3, 3, 4, 1, 2, 2, 3, 2, 3, 3, 4, 2, 3, 3, 4, 3, 4, 4, 5, 1, 2, 2, 3, 2, 3, 3, 4, 2, 3, 3, 4, 3, 4, 4, 5, 2, 3, 3, 4, 3, 4, 4, 5, 3, 4, 4, 5, 4, 5, 5, 6, 1, 2, 2, 3, 2, 3, 3, 4, 2, 3, 3, 4, 3, 4, 4, 5, 2, 3, 3, 4, 3, 4, 4, 5, 3, 4, 4, 5, 4, 5, 5, 6, 2, 3, 3, 4, 3, 4, 4, 5, 3, 4, 4, 5, 4, 5, 5, 6, 3, 4, 4, 5, 4, 5, 5, 6, 4, 5, 5, 6, 5, 6, 6, 7, 1, 2, 2, 3, 2, 3, 3, 4, 2, 3, 3, 4, 3, 4, 4, 5, 2, 3, 3, 4, 3, 4, 4, 5, 3, 4, 4, 5, 4, 5, 5, 6, 2, 3, 3, 4, 3, 4, 4, 5, 3, 4, 4, 5, 4, 5, 5, 6, 3, 4, 4, 5, 4, 5, 5, 6, 4, 5, 5, 6, 5, 6, 6, 7, 2, 3, 3, 4, 3, 4, 4, 5, 3, 4, 4, 5, 4, 5, 5, 6, 3, 4, 4, 5, 4, 5, 5, 6, 4, 5, 5, 6, 5, 6, 6, 7, 3, 4, 4, 5, 4, 5, 5, 6, 4, 5, 5, 6, 5, 6, 6, 7, 4, 5, 5, 6, 5, 6, 6, 7, 5, 6, 6, 7, 6, 7, 7, 8]⟩
def F9 (k : Nat) (r1 : (List Int)) (r2 : (List Int)) (K0 : Bool → Prop) : Prop := match k with
  | 0 => False
  | k + 1 => (cond (decide ((300 : Int) < ((List.length r1 : Nat) : Int))) (K0 true) (K0 (decide ((300 : Int) < ((List.length r2 : Nat) : Int)))))
def F28 (k : Nat) (r1 : (List Int)) (K0 : (List Int) → Prop) : Prop := match k with
  | 0 => False
  | k + 1 => (room (List.length r1) 8) ∧ K0 r1
def F10 (k : Nat) (r1 : (List Int)) (r2 : (List Int)) (K0 : (List Int) → (List Int) → Prop) : Prop := match k with
  | 0 => False
  | k + 1 => (Hold (F28 k r1 (fun r3 => (Hold (F28 k r2 (fun r4 => K0 r3 r4))))))
mutual
def C29_7 : Nat → Int → (List Int) → Int → Int → (Int → Prop) → Prop
  | 0, _, _, _, _, _ => False
  | k + 1, r6, r7, r8, r9, K0 => (Hold (C29_3 k r6 r7 r8 (IntKind.i64.wrap (r9 + (1 : Int))) K0))
def C29_3 : Nat → Int → (List Int) → Int → Int → (Int → Prop) → Prop
  | 0, _, _, _, _, _ => False
  | k + 1, r2, r3, r4, r5, K0 => (cond (decide (r5 < r4)) ((0 ≤ r5 ∧ r5 < ((List.length r3 : Nat) : Int)) ∧ (cond (decide ((1 : Int) ≤ (List.getD r3 (Int.toNat r5) (0 : Int)))) ((cond (decide ((List.getD r3 (Int.toNat r5) (0 : Int)) ≤ (7 : Int))) ((0 ≤ (List.getD r3 (Int.toNat r5) (0 : Int))) ∧ (Hold (C29_7 k (ior .u8 r2 (ishl .u8 (1 : Int) (List.getD r3 (Int.toNat r5) (0 : Int)))) r3 r4 r5 K0))) ((Hold (C29_7 k r2 r3 r4 r5 K0))))) ((Hold (C29_7 k r2 r3 r4 r5 K0))))) (K0 r2))
end
def F29 (k : Nat) (r1 : (List Int)) (K0 : Int → Prop) : Prop := match k with
  | 0 => False
  | k + 1 => (Hold (C29_3 k (0 : Int) r1 ((List.length r1 : Nat) : Int) (0 : Int) K0))
def C30_3 : Nat → Int → Int → (List Int) → ((List Int) → Prop) → Prop
  | 0, _, _, _, _ => False
  | k + 1, r2, r3, r4, K0 => (cond (decide (r3 < (8 : Int))) ((0 ≤ r3) ∧ (cond (decide ((iand .u8 (ishr .u8 r2 r3) (1 : Int)) = (1 : Int))) ((room (List.length r4 + List.length [r3]) 8) ∧ (Hold (C30_3 k r2 (IntKind.i64.wrap (r3 + (1 : Int))) (r4 ++ [r3]) K0))) ((Hold (C30_3 k r2 (IntKind.i64.wrap (r3 + (1 : Int))) r4 K0))))) (K0 r4))
def F30 (k : Nat) (r1 : Int) (K0 : (List Int) → Prop) : Prop := match k with
  | 0 => False
  | k + 1 => (Hold (C30_3 k r1 (0 : Int) [] K0))
def C36_4 : Nat → (List Int) → (List Int) → Int → Int → (Bool → Prop) → Prop
  | 0, _, _, _, _, _ => False
  | k + 1, r3, r4, r5, r6, K0 => (cond (decide (r6 < r5)) ((0 ≤ r6 ∧ r6 < ((List.length r3 : Nat) : Int)) ∧ (0 ≤ r6 ∧ r6 < ((List.length r4 : Nat) : Int)) ∧ (cond (!decide ((List.getD r3 (Int.toNat r6) (0 : Int)) = (List.getD r4 (Int.toNat r6) (0 : Int)))) (K0 false) ((Hold (C36_4 k r3 r4 r5 (IntKind.i64.wrap (r6 + (1 : Int))) K0))))) (K0 true))
def F36 (k : Nat) (r1 : (List Int)) (r2 : (List Int)) (K0 : Bool → Prop) : Prop := match k with
  | 0 => False
  | k + 1 => (cond (!decide (((List.length r1 : Nat) : Int) = ((List.length r2 : Nat) : Int))) (K0 false) ((Hold (C36_4 k r1 r2 ((List.length r1 : Nat) : Int) (0 : Int) K0))))
def F15 (k : Nat) (r1 : (List Int)) (r2 : (List Int)) (K0 : Int → Prop) : Prop := match k with
  | 0 => False
  | k + 1 => (Hold (F29 k r1 (fun r3 => (Hold (F29 k r2 (fun r4 => (cond (decide (r3 = (0 : Int))) (K0 (130 : Int)) ((cond (!decide ((iand .u8 r3 r4) = (0 : Int))) (K0 (130 : Int)) ((Hold (F30 k r3 (fun r5 => (Hold (F36 k r5 r1 (fun r6 => (cond (!r6) (K0 (130 : Int)) ((Hold (F30 k r4 (fun r7 => (Hold (F36 k r7 r2 (fun r8 => (cond (!r8) (K0 (130 : Int)) (K0 (0 : Int)))))))))))))))))))))))))))
def C11_14 : Nat → Int → Int → Bool → (List Int) → (List Int) → ((List Int) → (List Int) → Int → Prop) → Prop
  | 0, _, _, _, _, _, _ => False
  | k + 1, r16, r17, r18, r19, r20, K0 => (cond (!r18) (K0 [] [] (130 : Int)) ((Hold (F30 k r16 (fun r21 => (Hold (F30 k r17 (fun r22 => K0 r21 r22 (0 : Int)))))))))
def C11_5 : Nat → Int → Int → Int → Bool → Int → (List Int) → (List Int) → ((List Int) → (List Int) → Int → Prop) → Prop
  | 0, _, _, _, _, _, _, _, _ => False
  | k + 1, r9, r10, r11, r12, r13, r14, r15, K0 => (cond (decide (r13 = (1 : Int))) ((cond r12 ((Hold (C11_14 k r9 (ior .u8 r10 r11) (decide ((iand .u8 (ior .u8 r9 r10) r11) = (0 : Int))) r14 r15 K0))) ((Hold (C11_14 k r9 (ior .u8 r10 r11) false r14 r15 K0))))) ((cond (decide (r13 = (2 : Int))) ((cond r12 ((Hold (C11_14 k (ior .u8 r9 r11) (iandn .u8 r10 r11) (!decide ((iand .u8 r10 r11) = (0 : Int))) r14 r15 K0))) ((Hold (C11_14 k (ior .u8 r9 r11) (iandn .u8 r10 r11) false r14 r15 K0))))) ((cond (decide (r13 = (3 : Int))) ((cond r12 ((cond (!decide ((iand .u8 (ior .u8 r9 r10) r11) = (0 : Int))) ((Hold (C11_14 k (iandn .u8 r9 r11) (iandn .u8 r10 r11) (!decide ((iandn .u8 r9 r11) = (0 : Int))) r14 r15 K0))) ((Hold (C11_14 k (iandn .u8 r9 r11) (iandn .u8 r10 r11) false r14 r15 K0))))) ((Hold (C11_14 k (iandn .u8 r9 r11) (iandn .u8 r10 r11) false r14 r15 K0))))) ((Hold (C11_14 k r9 r10 false r14 r15 K0))))))))
def F11 (k : Nat) (r1 : (List Int)) (r2 : (List Int)) (r3 : Int) (r4 : Int) (K0 : (List Int) → (List Int) → Int → Prop) : Prop := match k with
  | 0 => False
  | k + 1 => (Hold (F29 k r1 (fun r5 => (Hold (F29 k r2 (fun r6 => (Hold (F29 k [r4] (fun r7 => (Hold (F15 k r1 r2 (fun r8 => (cond (decide (r8 = (0 : Int))) ((Hold (C11_5 k r5 r6 r7 (!decide (r7 = (0 : Int))) r3 [] [] K0))) ((Hold (C11_5 k r5 r6 r7 false r3 [] [] K0))))))))))))))))
def C31_2 : Nat → (List Int) → Int → Int → (Bool → Prop) → Prop
  | 0, _, _, _, _ => False
  | k + 1, r3, r4, r5, K0 => (cond (decide (r5 < ((List.length r3 : Nat) : Int))) ((0 ≤ r5 ∧ r5 < ((List.length r3 : Nat) : Int)) ∧ (cond (decide ((List.getD r3 (Int.toNat r5) (0 : Int)) = r4)) (K0 true) ((Hold (C31_2 k r3 r4 (IntKind.i64.wrap (r5 + (1 : Int))) K0))))) (K0 false))
def F31 (k : Nat) (r1 : (List Int)) (r2 : Int) (K0 : Bool → Prop) : Prop := match k with
  | 0 => False
  | k + 1 => (Hold (C31_2 k r1 r2 (0 : Int) K0))
def C32_3 : Nat → (List Int) → Int → Int → (List Int) → ((List Int) → Prop) → Prop
  | 0, _, _, _, _, _ => False
  | k + 1, r3, r4, r5, r6, K0 => (cond (decide (r5 < ((List.length r3 : Nat) : Int))) ((0 ≤ r5 ∧ r5 < ((List.length r3 : Nat) : Int)) ∧ (cond (!decide ((List.getD r3 (Int.toNat r5) (0 : Int)) = r4)) ((0 ≤ r5 ∧ r5 < ((List.length r3 : Nat) : Int)) ∧ (room (List.length r6 + List.length [(List.getD r3 (Int.toNat r5) (0 : Int))]) 8) ∧ (Hold (C32_3 k r3 r4 (IntKind.i64.wrap (r5 + (1 : Int))) (r6 ++ [(List.getD r3 (Int.toNat r5) (0 : Int))]) K0))) ((Hold (C32_3 k r3 r4 (IntKind.i64.wrap (r5 + (1 : Int))) r6 K0))))) (K0 r6))
def F32 (k : Nat) (r1 : (List Int)) (r2 : Int) (K0 : (List Int) → Prop) : Prop := match k with
  | 0 => False
  | k + 1 => (Hold (C32_3 k r1 r2 (0 : Int) [] K0))
def C37_2 : Nat → (List Int) → Int → (Bool → Prop) → Prop
  | 0, _, _, _ => False
  | k + 1, r2, r3, K0 => (cond (decide (r3 < ((List.length r2 : Nat) : Int))) ((0 ≤ r3 ∧ r3 < ((List.length r2 : Nat) : Int)) ∧ (cond (decide ((List.getD r2 (Int.toNat r3) (0 : Int)) < (1 : Int))) (K0 false) ((0 ≤ r3 ∧ r3 < ((List.length r2 : Nat) : Int)) ∧ (cond (decide ((7 : Int) < (List.getD r2 (Int.toNat r3) (0 : Int)))) (K0 false) ((cond (decide ((0 : Int) < r3)) ((0 ≤ (IntKind.i64.wrap (r3 - (1 : Int))) ∧ (IntKind.i64.wrap (r3 - (1 : Int))) < ((List.length r2 : Nat) : Int)) ∧ (0 ≤ r3 ∧ r3 < ((List.length r2 : Nat) : Int)) ∧ (cond (decide ((List.getD r2 (Int.toNat r3) (0 : Int)) ≤ (List.getD r2 (Int.toNat (IntKind.i64.wrap (r3 - (1 : Int)))) (0 : Int)))) (K0 false) ((Hold (C37_2 k r2 (IntKind.i64.wrap (r3 + (1 : Int))) K0))))) ((Hold (C37_2 k r2 (IntKind.i64.wrap (r3 + (1 : Int))) K0))))))))) (K0 true))
def F37 (k : Nat) (r1 : (List Int)) (K0 : Bool → Prop) : Prop := match k with
  | 0 => False
  | k + 1 => (Hold (C37_2 k r1 (0 : Int) K0))
def C19_4 : Nat → Int → (List Int) → (List Int) → (Bool → Prop) → Prop
  | 0, _, _, _, _ => False
  | k + 1, r5, r6, r7, K0 => (cond (decide (r5 < ((List.length r6 : Nat) : Int))) ((0 ≤ r5 ∧ r5 < ((List.length r6 : Nat) : Int)) ∧ (Hold (F31 k r7 (List.getD r6 (Int.toNat r5) (0 : Int)) (fun r8 => (cond r8 (K0 false) ((Hold (C19_4 k (IntKind.i64.wrap (r5 + (1 : Int))) r6 r7 K0)))))))) (K0 true))
def F19 (k : Nat) (r1 : (List Int)) (r2 : (List Int)) (K0 : Bool → Prop) : Prop := match k with
  | 0 => False
  | k + 1 => (Hold (F37 k r1 (fun r3 => (cond (!r3) (K0 false) ((Hold (F37 k r2 (fun r4 => (cond (!r4) (K0 false) ((cond (decide (((List.length r1 : Nat) : Int) = (0 : Int))) (K0 false) ((Hold (C19_4 k (0 : Int) r1 r2 K0))))))))))))))
def C33_3 : Nat → (List Int) → Int → Int → (List Int) → ((List Int) → Prop) → Prop
  | 0, _, _, _, _, _ => False
  | k + 1, r3, r4, r5, r6, K0 => (cond (decide (r5 ≤ (7 : Int))) ((cond (decide (r5 = r4)) ((room (List.length r6 + List.length [r5]) 8) ∧ (Hold (C33_3 k r3 r4 (IntKind.i64.wrap (r5 + (1 : Int))) (r6 ++ [r5]) K0))) ((Hold (F31 k r3 r5 (fun r7 => (cond r7 ((room (List.length r6 + List.length [r5]) 8) ∧ (Hold (C33_3 k r3 r4 (IntKind.i64.wrap (r5 + (1 : Int))) (r6 ++ [r5]) K0))) ((Hold (C33_3 k r3 r4 (IntKind.i64.wrap (r5 + (1 : Int))) r6 K0)))))))))) (K0 r6))
def F33 (k : Nat) (r1 : (List Int)) (r2 : Int) (K0 : (List Int) → Prop) : Prop := match k with
  | 0 => False
  | k + 1 => (Hold (C33_3 k r1 r2 (1 : Int) [] K0))
def C12_16 : Nat → Bool → (List Int) → (List Int) → (List Int) → (List Int) → ((List Int) → (List Int) → Int → Prop) → Prop
  | 0, _, _, _, _, _, _ => False
  | k + 1, r20, r21, r22, r23, r24, K0 => (cond (!r20) (K0 [] [] (130 : Int)) (K0 r23 r24 (0 : Int)))
def C12_8 : Nat → Int → Bool → Bool → Bool → Int → (List Int) → (List Int) → (List Int) → (List Int) → ((List Int) → (List Int) → Int → Prop) → Prop
  | 0, _, _, _, _, _, _, _, _, _, _ => False
  | k + 1, r10, r11, r12, r13, r14, r15, r16, r17, r18, K0 => (cond (decide (r14 = (1 : Int))) ((cond r13 ((cond (!r11) ((Hold (F33 k r18 r10 (fun r19 => (Hold (C12_16 k (!r12) r15 r16 r17 r19 K0)))))) ((Hold (F33 k r18 r10 (fun r25 => (Hold (C12_16 k false r15 r16 r17 r25 K0)))))))) ((Hold (F33 k r18 r10 (fun r26 => (Hold (C12_16 k false r15 r16 r17 r26 K0)))))))) ((cond (decide (r14 = (2 : Int))) ((cond r13 ((Hold (F33 k r17 r10 (fun r27 => (Hold (C12_16 k r12 r15 r16 r27 r18 K0)))))) ((Hold (F33 k r17 r10 (fun r28 => (Hold (C12_16 k false r15 r16 r28 r18 K0)))))))) ((cond (decide (r14 = (3 : Int))) ((cond r13 ((cond r11 ((Hold (C12_16 k (decide ((0 : Int) < ((List.length r17 : Nat) : Int))) r15 r16 r17 r18 K0))) ((cond r12 ((Hold (C12_16 k (decide ((0 : Int) < ((List.length r17 : Nat) : Int))) r15 r16 r17 r18 K0))) ((Hold (C12_16 k false r15 r16 r17 r18 K0))))))) ((Hold (C12_16 k false r15 r16 r17 r18 K0))))) ((Hold (C12_16 k false r15 r16 r17 r18 K0))))))))
def F12 (k : Nat) (r1 : (List Int)) (r2 : (List Int)) (r3 : Int) (r4 : Int) (K0 : (List Int) → (List Int) → Int → Prop) : Prop := match k with
  | 0 => False
  | k + 1 => (Hold (F31 k r1 r4 (fun r5 => (Hold (F31 k r2 r4 (fun r6 => (Hold (F32 k r1 r4 (fun r7 => (Hold (F32 k r2 r4 (fun r8 => (Hold (F19 k r1 r2 (fun r9 => (cond r9 ((cond (decide ((1 : Int) ≤ r4)) ((Hold (C12_8 k r4 r5 r6 (decide (r4 ≤ (7 : Int))) r3 [] [] r7 r8 K0))) ((Hold (C12_8 k r4 r5 r6 false r3 [] [] r7 r8 K0))))) ((Hold (C12_8 k r4 r5 r6 false r3 [] [] r7 r8 K0)))))))))))))))))))
def C34_4 : Nat → (List Int) → (List Int) → Int → (Bool → Prop) → Prop
  | 0, _, _, _, _ => False
  | k + 1, r3, r4, r5, K0 => (cond (decide (r5 < ((List.length r3 : Nat) : Int))) ((0 ≤ r5 ∧ r5 < ((List.length r3 : Nat) : Int)) ∧ (0 ≤ r5 ∧ r5 < ((List.length r4 : Nat) : Int)) ∧ (cond (!decide ((List.getD r3 (Int.toNat r5) (0 : Int)) = (List.getD r4 (Int.toNat r5) (0 : Int)))) (K0 false) ((Hold (C34_4 k r3 r4 (IntKind.i64.wrap (r5 + (1 : Int))) K0))))) (K0 true))
def F34 (k : Nat) (r1 : (List Int)) (r2 : (List Int)) (K0 : Bool → Prop) : Prop := match k with
  | 0 => False
  | k + 1 => (cond (!decide (((List.length r1 : Nat) : Int) = ((List.length r2 : Nat) : Int))) (K0 false) ((Hold (C34_4 k r1 r2 (0 : Int) K0))))
def F13 (k : Nat) (r1 : (List Int)) (r2 : (List Int)) (r3 : (List Int)) (r4 : (List Int)) (K0 : Bool → Prop) : Prop := match k with
  | 0 => False
  | k + 1 => (Hold (F34 k r1 r3 (fun r5 => (cond r5 ((Hold (F34 k r2 r4 (fun r6 => K0 r6)))) (K0 false)))))
def F35 (k : Nat)  (K0 : (List Int) → (List Int) → Prop) : Prop := match k with
  | 0 => False
  | k + 1 => K0 [(1 : Int), (2 : Int), (3 : Int)] [(4 : Int)]
def F14 (k : Nat)  (K0 : Bool → Prop) : Prop := match k with
  | 0 => False
  | k + 1 => (Hold (F35 k (fun r1 r2 => (Hold (F11 k r1 r2 (2 : Int) (4 : Int) (fun r3 r4 r5 => (Hold (F35 k (fun r6 r7 => (Hold (F11 k r6 r7 (2 : Int) (5 : Int) (fun r8 r9 r10 => (cond (decide (r5 = (0 : Int))) ((cond (decide (((List.length r3 : Nat) : Int) = (4 : Int))) ((cond (decide (((List.length r4 : Nat) : Int) = (0 : Int))) (K0 (decide (r10 = (130 : Int)))) (K0 false))) (K0 false))) (K0 false))))))))))))))
def C3_12 : Nat → Bool → Int → (List Int) → (List Int) → (List Int) → (List Int) → (List Int) → (List Int) → (Bool → Prop) → Prop
  | 0, _, _, _, _, _, _, _, _, _ => False
  | k + 1, r23, r24, r25, r26, r27, r28, r29, r30, K0 => (cond (decide (r24 < ((List.length r30 : Nat) : Int))) ((0 ≤ r24 ∧ r24 < ((List.length r30 : Nat) : Int)) ∧ (Hold (C3_12 k r23 (IntKind.i64.wrap (r24 + (1 : Int))) r25 r26 r27 r28 r29 (List.set r30 (Int.toNat r24) (77 : Int)) K0))) ((Hold (F14 k (fun r31 => (cond r31 ((cond r23 ((Hold (F13 k r25 r26 r27 r28 (fun r32 => K0 r32)))) (K0 false))) (K0 false)))))))
def C3_8 : Nat → Bool → Int → (List Int) → (List Int) → (List Int) → (List Int) → (List Int) → (List Int) → (Bool → Prop) → Prop
  | 0, _, _, _, _, _, _, _, _, _ => False
  | k + 1, r15, r16, r17, r18, r19, r20, r21, r22, K0 => (cond (decide (r16 < ((List.length r21 : Nat) : Int))) ((0 ≤ r16 ∧ r16 < ((List.length r21 : Nat) : Int)) ∧ (Hold (C3_8 k r15 (IntKind.i64.wrap (r16 + (1 : Int))) r17 r18 r19 r20 (List.set r21 (Int.toNat r16) (77 : Int)) r22 K0))) ((Hold (C3_12 k r15 (0 : Int) r17 r18 r19 r20 r21 r22 K0))))
def F3 (k : Nat) (r1 : (List Int)) (r2 : (List Int)) (r3 : Int) (r4 : Int) (K0 : Bool → Prop) : Prop := match k with
  | 0 => False
  | k + 1 => (Hold (F9 k r1 r2 (fun r5 => (cond r5 (K0 true) ((Hold (F10 k r1 r2 (fun r6 r7 => (Hold (F11 k r1 r2 r3 r4 (fun r8 r9 r10 => (Hold (F12 k r6 r7 r3 r4 (fun r11 r12 r13 => (cond (decide (r10 = r13)) ((Hold (F13 k r8 r9 r11 r12 (fun r14 => (Hold (C3_8 k r14 (0 : Int) r1 r2 r6 r7 r8 r9 K0)))))) ((Hold (C3_8 k false (0 : Int) r1 r2 r6 r7 r8 r9 K0))))))))))))))))))
def F16 (k : Nat) (r1 : (List Int)) (r2 : (List Int)) (K0 : (List Int) → Prop) : Prop := match k with
  | 0 => False
  | k + 1 => (Hold (F15 k r1 r2 (fun r3 => (cond (!decide (r3 = (0 : Int))) (K0 []) ((Hold (F29 k r1 (fun r4 => (Hold (F29 k r2 (fun r5 => (Hold (F30 k (ior .u8 r4 r5) (fun r6 => K0 r6))))))))))))))
def C18_3 : Nat → Int → (List Int) → (List Int) → (List Int) → ((List Int) → Prop) → Prop
  | 0, _, _, _, _, _ => False
  | k + 1, r3, r4, r5, r6, K0 => (cond (decide (r3 ≤ (7 : Int))) ((Hold (F19 k r4 r5 (fun r7 => (cond r7 ((Hold (F31 k r4 r3 (fun r8 => (cond r8 ((room (List.length r6 + List.length [r3]) 8) ∧ (Hold (C18_3 k (IntKind.i64.wrap (r3 + (1 : Int))) r4 r5 (r6 ++ [r3]) K0))) ((Hold (F31 k r5 r3 (fun r9 => (cond r9 ((room (List.length r6 + List.length [r3]) 8) ∧ (Hold (C18_3 k (IntKind.i64.wrap (r3 + (1 : Int))) r4 r5 (r6 ++ [r3]) K0))) ((Hold (C18_3 k (IntKind.i64.wrap (r3 + (1 : Int))) r4 r5 r6 K0))))))))))))) ((Hold (C18_3 k (IntKind.i64.wrap (r3 + (1 : Int))) r4 r5 r6 K0)))))))) (K0 r6))
def F18 (k : Nat) (r1 : (List Int)) (r2 : (List Int)) (K0 : (List Int) → Prop) : Prop := match k with
  | 0 => False
  | k + 1 => (Hold (C18_3 k (1 : Int) r1 r2 [] K0))
def C17_4 : Nat → (List Int) → (List Int) → Int → (Bool → Prop) → Prop
  | 0, _, _, _, _ => False
  | k + 1, r3, r4, r5, K0 => (cond (decide (r5 < ((List.length r3 : Nat) : Int))) ((0 ≤ r5 ∧ r5 < ((List.length r3 : Nat) : Int)) ∧ (0 ≤ r5 ∧ r5 < ((List.length r4 : Nat) : Int)) ∧ (cond (!decide ((List.getD r3 (Int.toNat r5) (0 : Int)) = (List.getD r4 (Int.toNat r5) (0 : Int)))) (K0 false) ((Hold (C17_4 k r3 r4 (IntKind.i64.wrap (r5 + (1 : Int))) K0))))) (K0 true))
def F17 (k : Nat) (r1 : (List Int)) (r2 : (List Int)) (K0 : Bool → Prop) : Prop := match k with
  | 0 => False
  | k + 1 => (cond (!decide (((List.length r1 : Nat) : Int) = ((List.length r2 : Nat) : Int))) (K0 false) ((Hold (C17_4 k r1 r2 (0 : Int) K0))))
def F44 (k : Nat) (r1 : Int) (K0 : Int → Prop) : Prop := match k with
  | 0 => False
  | k + 1 => (0 ≤ r1 ∧ r1 < ((ByteArray.size str0 : Nat) : Int)) ∧ K0 (IntKind.i64.wrap (bt str0 (Int.toNat r1)))
def F38 (k : Nat) (r1 : Int) (K0 : Int → Prop) : Prop := match k with
  | 0 => False
  | k + 1 => (Hold (F44 k r1 (fun r2 => K0 r2)))
def F21 (k : Nat) (r1 : (List Int)) (r2 : (List Int)) (r3 : (List Int)) (K0 : Bool → Prop) : Prop := match k with
  | 0 => False
  | k + 1 => (Hold (F29 k r1 (fun r4 => (Hold (F15 k r1 r2 (fun r5 => (cond (decide (r5 = (0 : Int))) ((Hold (F29 k r3 (fun r6 => (Hold (F38 k (iand .u8 r4 r6) (fun r7 => (Hold (F38 k r4 (fun r8 => K0 (decide (r8 < (IntKind.i64.wrap ((2 : Int) * r7)))))))))))))) (K0 false))))))))
def C45_2 : Nat → (List Int) → Int → Int → Int → (Int → Prop) → Prop
  | 0, _, _, _, _, _ => False
  | k + 1, r3, r4, r5, r6, K0 => (cond (decide (r6 < r5)) ((0 ≤ r6 ∧ r6 < ((List.length r3 : Nat) : Int)) ∧ (cond (decide (r4 = (List.getD r3 (Int.toNat r6) (0 : Int)))) (K0 r6) ((Hold (C45_2 k r3 r4 r5 (IntKind.i64.wrap (r6 + (1 : Int))) K0))))) (K0 (-1 : Int)))
def F45 (k : Nat) (r1 : (List Int)) (r2 : Int) (K0 : Int → Prop) : Prop := match k with
  | 0 => False
  | k + 1 => (Hold (C45_2 k r1 r2 ((List.length r1 : Nat) : Int) (0 : Int) K0))
def F39 (k : Nat) (r1 : (List Int)) (r2 : Int) (K0 : Bool → Prop) : Prop := match k with
  | 0 => False
  | k + 1 => (Hold (F45 k r1 r2 (fun r3 => K0 (decide ((0 : Int) ≤ r3)))))
def F23 (k : Nat) (r1 : (List Int)) (r2 : (List Int)) (r3 : Int) (K0 : Bool → Prop) : Prop := match k with
  | 0 => False
  | k + 1 => (Hold (F15 k r1 r2 (fun r4 => (cond (decide (r4 = (0 : Int))) ((Hold (F39 k r1 r3 (fun r5 => K0 r5)))) (K0 false)))))
def F20 (k : Nat)  (K0 : Bool → Prop) : Prop := match k with
  | 0 => False
  | k + 1 => (Hold (F35 k (fun r1 r2 => (Hold (F15 k r1 r2 (fun r3 => (cond (decide (r3 = (0 : Int))) ((Hold (F16 k r1 r2 (fun r4 => (Hold (F17 k r4 [(1 : Int), (2 : Int), (3 : Int), (4 : Int)] (fun r5 => (cond r5 ((Hold (F21 k r1 r2 [(3 : Int), (1 : Int), (1 : Int)] (fun r6 => (cond r6 ((Hold (F21 k r1 r2 [(1 : Int), (4 : Int), (4 : Int)] (fun r7 => (cond (!r7) ((Hold (F23 k r1 r2 (3 : Int) (fun r8 => (cond r8 ((Hold (F23 k r1 r2 (4 : Int) (fun r9 => K0 (!r9))))) (K0 false)))))) (K0 false)))))) (K0 false)))))) (K0 false))))))))) (K0 false))))))))
def C22_3 : Nat → (List Int) → Int → Int → (List Int) → (List Int) → (Bool → Prop) → Prop
  | 0, _, _, _, _, _, _ => False
  | k + 1, r4, r5, r6, r7, r8, K0 => (cond (decide (r6 < ((List.length r7 : Nat) : Int))) ((0 ≤ r6 ∧ r6 < ((List.length r7 : Nat) : Int)) ∧ (Hold (F31 k r4 (List.getD r7 (Int.toNat r6) (0 : Int)) (fun r9 => (cond r9 ((Hold (C22_3 k r4 (IntKind.i64.wrap (r5 + (1 : Int))) (IntKind.i64.wrap (r6 + (1 : Int))) r7 r8 K0))) ((Hold (C22_3 k r4 r5 (IntKind.i64.wrap (r6 + (1 : Int))) r7 r8 K0)))))))) ((Hold (F19 k r7 r8 (fun r10 => (cond r10 (K0 (decide (((List.length r7 : Nat) : Int) < (IntKind.i64.wrap ((2 : Int) * r5))))) (K0 false)))))))
def F22 (k : Nat) (r1 : (List Int)) (r2 : (List Int)) (r3 : (List Int)) (K0 : Bool → Prop) : Prop := match k with
  | 0 => False
  | k + 1 => (Hold (C22_3 k r3 (0 : Int) (0 : Int) r1 r2 K0))
def F24 (k : Nat) (r1 : (List Int)) (r2 : (List Int)) (r3 : Int) (K0 : Bool → Prop) : Prop := match k with
  | 0 => False
  | k + 1 => (Hold (F19 k r1 r2 (fun r4 => (cond r4 ((Hold (F31 k r1 r3 (fun r5 => K0 r5)))) (K0 false)))))
def C4_12 : Nat → (List Int) → Int → Bool → Bool → (List Int) → (List Int) → (List Int) → (List Int) → (Bool → Prop) → Prop
  | 0, _, _, _, _, _, _, _, _, _ => False
  | k + 1, r23, r24, r25, r26, r27, r28, r29, r30, K0 => (Hold (F20 k (fun r31 => (cond r31 ((cond r26 ((cond r25 ((Hold (F21 k r27 r28 r23 (fun r32 => (Hold (F22 k r29 r30 r23 (fun r33 => (cond (r32 == r33) ((Hold (F23 k r27 r28 r24 (fun r34 => (Hold (F24 k r29 r30 r24 (fun r35 => (cond (r34 == r35) ((Hold (F13 k r27 r28 r29 r30 (fun r36 => K0 r36)))) (K0 false))))))))) (K0 false))))))))) (K0 false))) (K0 false))) (K0 false)))))
def C4_8 : Nat → (List Int) → Int → Int → Bool → Int → (List Int) → (List Int) → (List Int) → (List Int) → (List Int) → (Bool → Prop) → Prop
  | 0, _, _, _, _, _, _, _, _, _, _, _ => False
  | k + 1, r12, r13, r14, r15, r16, r17, r18, r19, r20, r21, K0 => (cond (decide (r16 < ((List.length r19 : Nat) : Int))) ((0 ≤ r16 ∧ r16 < ((List.length r19 : Nat) : Int)) ∧ (Hold (C4_8 k r12 r13 r14 r15 (IntKind.i64.wrap (r16 + (1 : Int))) r17 r18 (List.set r19 (Int.toNat r16) (77 : Int)) r20 r21 K0))) ((Hold (F19 k r20 r21 (fun r22 => (cond ((decide (r14 = (0 : Int))) == r22) ((cond (decide (r14 = (0 : Int))) ((Hold (C4_12 k r12 r13 r15 true r17 r18 r20 r21 K0))) ((Hold (C4_12 k r12 r13 r15 (decide (r14 = (130 : Int))) r17 r18 r20 r21 K0))))) ((Hold (C4_12 k r12 r13 r15 false r17 r18 r20 r21 K0)))))))))
def F4 (k : Nat) (r1 : (List Int)) (r2 : (List Int)) (r3 : (List Int)) (r4 : Int) (K0 : Bool → Prop) : Prop := match k with
  | 0 => False
  | k + 1 => (Hold (F9 k r1 r2 (fun r5 => (cond r5 (K0 true) ((cond (decide ((300 : Int) < ((List.length r3 : Nat) : Int))) (K0 true) ((Hold (F10 k r1 r2 (fun r6 r7 => (Hold (F15 k r1 r2 (fun r8 => (Hold (F16 k r1 r2 (fun r9 => (Hold (F18 k r6 r7 (fun r10 => (Hold (F17 k r9 r10 (fun r11 => (Hold (C4_8 k r3 r4 r8 r11 (0 : Int) r1 r2 r9 r6 r7 K0))))))))))))))))))))))))
def C5_9 : Nat → (Bool → Prop) → Prop
  | 0, _ => False
  | k + 1, K0 => (Hold (F20 k (fun r18 => (cond r18 ((Hold (F14 k (fun r19 => K0 r19)))) (K0 false)))))
mutual
def C5_15 : Nat → (List Int) → (List Int) → Int → Int → (List Int) → (List Int) → (List Int) → (List Int) → (Bool → Prop) → Prop
  | 0, _, _, _, _, _, _, _, _, _ => False
  | k + 1, r48, r49, r50, r51, r52, r53, r54, r55, K0 => (Hold (C5_14 k r48 r49 r50 (IntKind.i64.wrap (r51 + (1 : Int))) r52 r53 r54 r55 K0))
def C5_16 : Nat → (List Int) → (List Int) → Int → Int → (List Int) → (List Int) → (List Int) → (List Int) → (Bool → Prop) → Prop
  | 0, _, _, _, _, _, _, _, _, _ => False
  | k + 1, r36, r37, r38, r39, r40, r41, r42, r43, K0 => (0 ≤ r38 ∧ r38 < ((List.length r36 : Nat) : Int)) ∧ (0 ≤ r39 ∧ r39 < ((List.length r37 : Nat) : Int)) ∧ (cond (decide ((List.getD r36 (Int.toNat r38) (0 : Int)) = (List.getD r37 (Int.toNat r39) (0 : Int)))) ((0 ≤ r38 ∧ r38 < ((List.length r36 : Nat) : Int)) ∧ (Hold (F23 k r40 r41 (List.getD r36 (Int.toNat r38) (0 : Int)) (fun r44 => (cond r44 ((0 ≤ r38 ∧ r38 < ((List.length r36 : Nat) : Int)) ∧ (Hold (F23 k r42 r43 (List.getD r36 (Int.toNat r38) (0 : Int)) (fun r45 => (cond r45 ((Hold (F20 k (fun r46 => (cond r46 ((Hold (F14 k (fun r47 => K0 r47)))) (K0 false)))))) ((Hold (C5_15 k r36 r37 r38 r39 r40 r41 r42 r43 K0)))))))) ((Hold (C5_15 k r36 r37 r38 r39 r40 r41 r42 r43 K0)))))))) ((Hold (C5_15 k r36 r37 r38 r39 r40 r41 r42 r43 K0))))
def C5_14 : Nat → (List Int) → (List Int) → Int → Int → (List Int) → (List Int) → (List Int) → (List Int) → (Bool → Prop) → Prop
  | 0, _, _, _, _, _, _, _, _, _ => False
  | k + 1, r28, r29, r30, r31, r32, r33, r34, r35, K0 => (cond (decide (r31 < ((List.length r29 : Nat) : Int))) ((Hold (C5_16 k r28 r29 r30 r31 r32 r33 r34 r35 K0))) ((Hold (C5_11 k r28 r29 (IntKind.i64.wrap (r30 + (1 : Int))) r32 r33 r34 r35 K0))))
def C5_11 : Nat → (List Int) → (List Int) → Int → (List Int) → (List Int) → (List Int) → (List Int) → (Bool → Prop) → Prop
  | 0, _, _, _, _, _, _, _, _ => False
  | k + 1, r21, r22, r23, r24, r25, r26, r27, K0 => (cond (decide (r23 < ((List.length r21 : Nat) : Int))) ((Hold (C5_14 k r21 r22 r23 (0 : Int) r24 r25 r26 r27 K0))) (K0 false))
end
def C5_8 : Nat → (List Int) → (List Int) → (List Int) → (List Int) → (List Int) → (List Int) → (Bool → Prop) → Prop
  | 0, _, _, _, _, _, _, _ => False
  | k + 1, r11, r12, r13, r14, r15, r16, K0 => (Hold (F21 k r13 r14 r11 (fun r17 => (cond (!r17) ((Hold (C5_9 k  K0))) ((Hold (F21 k r15 r16 r12 (fun r20 => (cond (!r20) ((Hold (C5_9 k  K0))) ((Hold (C5_11 k r11 r12 (0 : Int) r13 r14 r15 r16 K0))))))))))))
def F5 (k : Nat) (r1 : (List Int)) (r2 : (List Int)) (r3 : Int) (r4 : Int) (r5 : (List Int)) (r6 : (List Int)) (K0 : Bool → Prop) : Prop := match k with
  | 0 => False
  | k + 1 => (Hold (F9 k r1 r2 (fun r7 => (cond r7 (K0 true) ((cond (decide ((300 : Int) < ((List.length r5 : Nat) : Int))) (K0 true) ((cond (decide ((300 : Int) < ((List.length r6 : Nat) : Int))) (K0 true) ((Hold (F11 k r1 r2 r3 r4 (fun r8 r9 r10 => (cond (!decide (r10 = (0 : Int))) ((Hold (C5_8 k r5 r6 r1 r2 r1 r2 K0))) ((Hold (F15 k r8 r9 (fun r56 => (cond (!decide (r56 = (0 : Int))) (K0 false) ((Hold (C5_8 k r5 r6 r1 r2 r8 r9 K0)))))))))))))))))))))
def C6_10 : Nat → Int → Int → Int → Bool → (List Int) → (List Int) → (List Int) → (List Int) → (List Int) → (List Int) → (Bool → Prop) → Prop
  | 0, _, _, _, _, _, _, _, _, _, _, _ => False
  | k + 1, r23, r24, r25, r26, r27, r28, r29, r30, r31, r32, K0 => (Hold (F20 k (fun r33 => (cond r33 ((Hold (F14 k (fun r34 => (cond r34 ((cond (decide (r23 = (0 : Int))) ((cond (decide (r24 = (0 : Int))) ((cond (decide (r25 = (0 : Int))) ((cond r26 ((Hold (F13 k r29 r30 r27 r28 (fun r35 => (cond r35 ((Hold (F13 k r31 r32 r27 r28 (fun r36 => K0 r36)))) (K0 false)))))) (K0 false))) (K0 false))) (K0 false))) (K0 false))) (K0 false)))))) (K0 false)))))
def F6 (k : Nat) (r1 : (List Int)) (r2 : (List Int)) (r3 : Int) (K0 : Bool → Prop) : Prop := match k with
  | 0 => False
  | k + 1 => (Hold (F9 k r1 r2 (fun r4 => (cond r4 (K0 true) ((Hold (F11 k r1 r2 (1 : Int) r3 (fun r5 r6 r7 => (cond (!decide (r7 = (0 : Int))) ((Hold (F20 k (fun r8 => (cond r8 ((Hold (F14 k (fun r9 => (cond r9 (K0 (decide (((List.length r5 : Nat) : Int) = (0 : Int)))) (K0 false)))))) (K0 false)))))) ((Hold (F11 k r5 r6 (2 : Int) r3 (fun r10 r11 r12 => (Hold (F11 k r5 r6 (3 : Int) r3 (fun r13 r14 r15 => (Hold (F11 k r10 r11 (3 : Int) r3 (fun r16 r17 r18 => (Hold (F15 k r5 r6 (fun r19 => (cond (decide (r19 = (0 : Int))) ((Hold (F15 k r10 r11 (fun r20 => (cond (decide (r20 = (0 : Int))) ((Hold (F23 k r10 r11 r3 (fun r21 => (cond r21 ((Hold (F23 k r5 r6 r3 (fun r22 => (Hold (C6_10 k r12 r15 r18 (!r22) r1 r2 r13 r14 r16 r17 K0)))))) ((Hold (C6_10 k r12 r15 r18 false r1 r2 r13 r14 r16 r17 K0)))))))) ((Hold (C6_10 k r12 r15 r18 false r1 r2 r13 r14 r16 r17 K0)))))))) ((Hold (C6_10 k r12 r15 r18 false r1 r2 r13 r14 r16 r17 K0))))))))))))))))))))))))))
def F41 (k : Nat) (r1 : (List Int)) (K0 : (List Int) → Prop) : Prop := match k with
  | 0 => False
  | k + 1 => (∀ r2 : Bool, (r2 = true → r1 = ([] : List Int)) → (cond r2 (K0 []) ((room (List.length ([] : List Int) + List.length r1) 8) ∧ K0 (([] : List Int) ++ r1))))
def F42 (k : Nat) (r1 : (List Int)) (K0 : (List Int) → Prop) : Prop := match k with
  | 0 => False
  | k + 1 => (List.length r1 < 4611686018427387904) ∧ K0 (sortI r1)
def F43 (k : Nat) (r1 : (List Int)) (K0 : (List Int) → Prop) : Prop := match k with
  | 0 => False
  | k + 1 => K0 r1
def C40_3 : Nat → Int → (List Int) → Int → Int → (List Int) → (List Int) → (List Int) → (List Int) → (List Int) → (Bool → (List Int) → (List Int) → (List Int) → (List Int) → Prop) → Prop
  | 0, _, _, _, _, _, _, _, _, _, _ => False
  | k + 1, r6, r7, r8, r9, r10, r11, r12, r13, r14, K0 => (cond (decide (r9 < r8)) ((0 ≤ r9 ∧ r9 < ((List.length r7 : Nat) : Int)) ∧ (cond (decide (r6 ≤ (List.getD r7 (Int.toNat r9) (0 : Int)))) ((0 ≤ r9 ∧ r9 < ((List.length r11 : Nat) : Int)) ∧ (room (List.length r14 + List.length [(List.getD r11 (Int.toNat r9) (0 : Int))]) 8) ∧ (Hold (C40_3 k r6 r7 r8 (IntKind.i64.wrap (r9 + (1 : Int))) r10 r11 r12 r13 (r14 ++ [(List.getD r11 (Int.toNat r9) (0 : Int))]) K0))) ((Hold (C40_3 k r6 r7 r8 (IntKind.i64.wrap (r9 + (1 : Int))) r10 r11 r12 r13 r14 K0))))) ((Hold (F21 k r12 r13 r14 (fun r15 => K0 r15 r10 r11 r12 r13)))))
def F40 (k : Nat) (r1 : Int) (r2 : (List Int)) (r3 : (List Int)) (r4 : (List Int)) (r5 : (List Int)) (K0 : Bool → (List Int) → (List Int) → (List Int) → (List Int) → Prop) : Prop := match k with
  | 0 => False
  | k + 1 => (Hold (C40_3 k r1 r2 ((List.length r2 : Nat) : Int) (0 : Int) r2 r3 r4 r5 [] K0))
def F26y7 (k : Nat) (r1 : Int) (r2 : Int) (r3 : Int) (r4 : (List Int)) (r5 : (List Int)) (r6 : (List Int)) (r7 : (List Int)) (K1 : Int → (List Int) → (List Int) → (List Int) → (List Int) → Prop) (K2 : Int → (List Int) → (List Int) → (List Int) → (List Int) → Prop) : Prop := match k with
  | 0 => False
  | k + 1 => (cond (decide ((0 : Int) < r2)) ((Hold (F40 k r2 r4 r5 r6 r7 (fun r8 r9 r10 r11 r12 => (cond r8 (K1 r2 r9 r10 r11 r12) (K2 r3 r9 r10 r11 r12)))))) (K2 r3 r4 r5 r6 r7))
def C48_1 : Nat → Int → Int → (List Int) → (List Int) → (List Int) → (List Int) → (List Int) → (Int → (List Int) → (List Int) → (List Int) → (List Int) → (List Int) → Prop) → (Int → (List Int) → (List Int) → (List Int) → (List Int) → (List Int) → Prop) → Prop
  | 0, _, _, _, _, _, _, _, _, _ => False
  | k + 1, r7, r8, r9, r10, r11, r12, r13, K0, K1 => (cond (decide ((0 : Int) ≤ r7)) ((0 ≤ r7 ∧ r7 < ((List.length r9 : Nat) : Int)) ∧ (Hold (F26y7 k r7 (List.getD r9 (Int.toNat r7) (0 : Int)) r8 r10 r11 r12 r13 (fun r14 r15 r16 r17 r18 => K0 r14 r9 r15 r16 r17 r18) (fun r19 r20 r21 r22 r23 => (Hold (C48_1 k (IntKind.i64.wrap (r7 - (1 : Int))) r19 r9 r20 r21 r22 r23 K0 K1)))))) (K1 r8 r9 r10 r11 r12 r13))
def F48 (k : Nat) (r1 : Int) (r2 : (List Int)) (r3 : (List Int)) (r4 : (List Int)) (r5 : (List Int)) (r6 : (List Int)) (K0 : Int → (List Int) → (List Int) → (List Int) → (List Int) → (List Int) → Prop) (K1 : Int → (List Int) → (List Int) → (List Int) → (List Int) → (List Int) → Prop) : Prop := match k with
  | 0 => False
  | k + 1 => (Hold (C48_1 k (IntKind.i64.wrap (((List.length r2 : Nat) : Int) - (1 : Int))) r1 r2 r3 r4 r5 r6 K0 K1))
def F26 (k : Nat) (r1 : (List Int)) (r2 : (List Int)) (r3 : (List Int)) (r4 : (List Int)) (K0 : Int → Prop) : Prop := match k with
  | 0 => False
  | k + 1 => (cond (!decide (((List.length r3 : Nat) : Int) = ((List.length r4 : Nat) : Int))) (K0 (0 : Int)) ((Hold (F41 k r4 (fun r5 => (Hold (F42 k r5 (fun r6 => (Hold (F43 k r6 (fun r7 => (Hold (F48 k (0 : Int) r7 r4 r3 r1 r2 (fun r8 r9 r10 r11 r12 r13 => K0 r8) (fun r14 r15 r16 r17 r18 r19 => K0 (0 : Int)))))))))))))))
def F25 (k : Nat)  (K0 : Bool → Prop) : Prop := match k with
  | 0 => False
  | k + 1 => (Hold (F35 k (fun r1 r2 => (Hold (F26 k r1 r2 [(1 : Int), (2 : Int), (3 : Int), (4 : Int)] [(5 : Int), (3 : Int), (2 : Int), (9 : Int)] (fun r3 => K0 (decide (r3 = (3 : Int)))))))))
mutual
def C27_9 : Nat → (List Int) → (List Int) → Int → Int → Int → (List Int) → (List Int) → (List Int) → (Int → Prop) → Prop
  | 0, _, _, _, _, _, _, _, _, _ => False
  | k + 1, r11, r12, r13, r14, r15, r16, r17, r18, K0 => (cond (decide (r15 < ((List.length r12 : Nat) : Int))) ((0 ≤ r15 ∧ r15 < ((List.length r12 : Nat) : Int)) ∧ (0 ≤ r14 ∧ r14 < ((List.length r12 : Nat) : Int)) ∧ (cond (decide ((List.getD r12 (Int.toNat r14) (0 : Int)) ≤ (List.getD r12 (Int.toNat r15) (0 : Int)))) ((0 ≤ r15 ∧ r15 < ((List.length r11 : Nat) : Int)) ∧ (room (List.length r18 + List.length [(List.getD r11 (Int.toNat r15) (0 : Int))]) 8) ∧ (Hold (C27_9 k r11 r12 r13 r14 (IntKind.i64.wrap (r15 + (1 : Int))) r16 r17 (r18 ++ [(List.getD r11 (Int.toNat r15) (0 : Int))]) K0))) ((Hold (C27_9 k r11 r12 r13 r14 (IntKind.i64.wrap (r15 + (1 : Int))) r16 r17 r18 K0))))) ((0 ≤ r14 ∧ r14 < ((List.length r12 : Nat) : Int)) ∧ (cond (decide (r13 < (List.getD r12 (Int.toNat r14) (0 : Int)))) ((Hold (F22 k r16 r17 r18 (fun r19 => (cond r19 ((0 ≤ r14 ∧ r14 < ((List.length r12 : Nat) : Int)) ∧ (Hold (C27_5 k r11 r12 (List.getD r12 (Int.toNat r14) (0 : Int)) (IntKind.i64.wrap (r14 + (1 : Int))) r16 r17 K0))) ((Hold (C27_5 k r11 r12 r13 (IntKind.i64.wrap (r14 + (1 : Int))) r16 r17 K0)))))))) ((Hold (C27_5 k r11 r12 r13 (IntKind.i64.wrap (r14 + (1 : Int))) r16 r17 K0))))))
def C27_5 : Nat → (List Int) → (List Int) → Int → Int → (List Int) → (List Int) → (Int → Prop) → Prop
  | 0, _, _, _, _, _, _, _ => False
  | k + 1, r5, r6, r7, r8, r9, r10, K0 => (cond (decide (r8 < ((List.length r6 : Nat) : Int))) ((Hold (C27_9 k r5 r6 r7 r8 (0 : Int) r9 r10 [] K0))) (K0 r7))
end
def F27 (k : Nat) (r1 : (List Int)) (r2 : (List Int)) (r3 : (List Int)) (r4 : (List Int)) (K0 : Int → Prop) : Prop := match k with
  | 0 => False
  | k + 1 => (cond (!decide (((List.length r3 : Nat) : Int) = ((List.length r4 : Nat) : Int))) (K0 (0 : Int)) ((Hold (C27_5 k r3 r4 (0 : Int) (0 : Int) r1 r2 K0))))
def F7 (k : Nat) (r1 : (List Int)) (r2 : (List Int)) (r3 : (List Int)) (r4 : (List Int)) (K0 : Bool → Prop) : Prop := match k with
  | 0 => False
  | k + 1 => (Hold (F9 k r1 r2 (fun r5 => (cond r5 (K0 true) ((cond (decide ((300 : Int) < ((List.length r3 : Nat) : Int))) (K0 true) ((cond (decide ((300 : Int) < ((List.length r4 : Nat) : Int))) (K0 true) ((Hold (F25 k (fun r6 => (cond r6 ((Hold (F26 k r1 r2 r3 r4 (fun r7 => (Hold (F27 k r1 r2 r3 r4 (fun r8 => K0 (decide (r7 = r8))))))))) (K0 false))))))))))))))
def C8_2 : Nat → (Bool → Prop) → Prop
  | 0, _ => False
  | k + 1, K0 => (Hold (F20 k (fun r6 => (cond r6 ((Hold (F25 k (fun r7 => K0 r7)))) (K0 false)))))
mutual
def C8_11 : Nat → (List Int) → (List Int) → Int → Int → (List Int) → (List Int) → (List Int) → (List Int) → (Bool → Prop) → Prop
  | 0, _, _, _, _, _, _, _, _, _ => False
  | k + 1, r18, r19, r20, r21, r22, r23, r24, r25, K0 => (0 ≤ r21 ∧ r21 < ((List.length r19 : Nat) : Int)) ∧ (cond (decide (r20 < (List.getD r19 (Int.toNat r21) (0 : Int)))) ((0 ≤ r21 ∧ r21 < ((List.length r18 : Nat) : Int)) ∧ (room (List.length r25 + List.length [(List.getD r18 (Int.toNat r21) (0 : Int))]) 8) ∧ (Hold (C8_7 k r18 r19 r20 (IntKind.i64.wrap (r21 + (1 : Int))) r22 r23 r24 (r25 ++ [(List.getD r18 (Int.toNat r21) (0 : Int))]) K0))) ((Hold (C8_7 k r18 r19 r20 (IntKind.i64.wrap (r21 + (1 : Int))) r22 r23 r24 r25 K0))))
def C8_7 : Nat → (List Int) → (List Int) → Int → Int → (List Int) → (List Int) → (List Int) → (List Int) → (Bool → Prop) → Prop
  | 0, _, _, _, _, _, _, _, _, _ => False
  | k + 1, r10, r11, r12, r13, r14, r15, r16, r17, K0 => (cond (decide (r13 < ((List.length r10 : Nat) : Int))) ((0 ≤ r13 ∧ r13 < ((List.length r11 : Nat) : Int)) ∧ (cond (decide (r12 ≤ (List.getD r11 (Int.toNat r13) (0 : Int)))) ((0 ≤ r13 ∧ r13 < ((List.length r10 : Nat) : Int)) ∧ (room (List.length r16 + List.length [(List.getD r10 (Int.toNat r13) (0 : Int))]) 8) ∧ (Hold (C8_11 k r10 r11 r12 r13 r14 r15 (r16 ++ [(List.getD r10 (Int.toNat r13) (0 : Int))]) r17 K0))) ((Hold (C8_11 k r10 r11 r12 r13 r14 r15 r16 r17 K0))))) ((Hold (F20 k (fun r26 => (cond r26 ((Hold (F25 k (fun r27 => (cond r27 ((cond (decide ((0 : Int) ≤ r12)) ((cond (decide (r12 = (0 : Int))) ((Hold (F21 k r14 r15 r17 (fun r28 => K0 (!r28))))) ((Hold (F21 k r14 r15 r16 (fun r29 => (cond r29 ((Hold (F21 k r14 r15 r17 (fun r30 => K0 (!r30))))) (K0 false)))))))) (K0 false))) (K0 false)))))) (K0 false)))))))
end
def F8 (k : Nat) (r1 : (List Int)) (r2 : (List Int)) (r3 : (List Int)) (r4 : (List Int)) (K0 : Bool → Prop) : Prop := match k with
  | 0 => False
  | k + 1 => (Hold (F9 k r1 r2 (fun r5 => (cond r5 ((Hold (C8_2 k  K0))) ((cond (decide ((300 : Int) < ((List.length r3 : Nat) : Int))) ((Hold (C8_2 k  K0))) ((cond (!decide (((List.length r4 : Nat) : Int) = ((List.length r3 : Nat) : Int))) ((Hold (C8_2 k  K0))) ((Hold (F15 k r1 r2 (fun r8 => (cond (!decide (r8 = (0 : Int))) ((Hold (C8_2 k  K0))) ((Hold (F26 k r1 r2 r3 r4 (fun r9 => (Hold (C8_7 k r3 r4 r9 (0 : Int) r1 r2 [] [] K0)))))))))))))))))))
end Go.V
