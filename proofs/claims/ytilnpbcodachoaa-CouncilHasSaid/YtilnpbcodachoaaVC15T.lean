import Derived.Test.YtilnpbcodachoaaVC15H
set_option linter.unusedVariables false
namespace Go.V
open Go
def T9 (k : Nat) : Fn PU := fun args boxes K => match args, boxes with
  | [.agg [.ro false 3 r1, .ro false 3 r2]], [] => Hold (F9 k r1 r2 (fun z0 => K (.bool z0) []))
  | _, _ => False
def T28 (k : Nat) : Fn PU := fun args boxes K => match args, boxes with
  | [.ro false 3 r1], [] => Hold (F28 k r1 (fun z0 => K (.usl 3 z0) []))
  | _, _ => False
def T10 (k : Nat) : Fn PU := fun args boxes K => match args, boxes with
  | [.agg [.ro false 3 r1, .ro false 3 r2]], [] => Hold (F10 k r1 r2 (fun z0 z1 => K (.agg [.usl 3 z0, .usl 3 z1]) []))
  | _, _ => False
def T29 (k : Nat) : Fn PU := fun args boxes K => match args, boxes with
  | [.ro false 3 r1], [] => Hold (F29 k r1 (fun z0 => K (.int .u8 z0) []))
  | [.ro true 3 r1], [] => Hold (F29 k r1 (fun z0 => K (.int .u8 z0) []))
  | _, _ => False
def T30 (k : Nat) : Fn PU := fun args boxes K => match args, boxes with
  | [.int .u8 r1], [] => Hold (F30 k r1 (fun z0 => K (.usl 3 z0) []))
  | _, _ => False
def T36 (k : Nat) : Fn PU := fun args boxes K => match args, boxes with
  | [.ro true 3 r1, .ro false 3 r2], [] => Hold (F36 k r1 r2 (fun z0 => K (.bool z0) []))
  | [.ro true 3 r1, .ro true 3 r2], [] => Hold (F36 k r1 r2 (fun z0 => K (.bool z0) []))
  | _, _ => False
def T15 (k : Nat) : Fn PU := fun args boxes K => match args, boxes with
  | [.agg [.ro false 3 r1, .ro false 3 r2]], [] => Hold (F15 k r1 r2 (fun z0 => K (.int .i64 z0) []))
  | [.agg [.ro true 3 r1, .ro true 3 r2]], [] => Hold (F15 k r1 r2 (fun z0 => K (.int .i64 z0) []))
  | _, _ => False
def T11 (k : Nat) : Fn PU := fun args boxes K => match args, boxes with
  | [.agg [.ro false 3 r1, .ro false 3 r2], .agg [.int .i64 r3, .int .i64 r4]], [] => Hold (F11 k r1 r2 r3 r4 (fun z0 z1 z2 => K (.tup [.agg [.usl 3 z0, .usl 3 z1], .int .i64 z2]) []))
  | [.agg [.ro true 3 r1, .ro true 3 r2], .agg [.int .i64 r3, .int .i64 r4]], [] => Hold (F11 k r1 r2 r3 r4 (fun z0 z1 z2 => K (.tup [.agg [.usl 3 z0, .usl 3 z1], .int .i64 z2]) []))
  | _, _ => False
def T31 (k : Nat) : Fn PU := fun args boxes K => match args, boxes with
  | [.ro true 3 r1, .int .i64 r2], [] => Hold (F31 k r1 r2 (fun z0 => K (.bool z0) []))
  | [.ro false 3 r1, .int .i64 r2], [] => Hold (F31 k r1 r2 (fun z0 => K (.bool z0) []))
  | _, _ => False
def T32 (k : Nat) : Fn PU := fun args boxes K => match args, boxes with
  | [.ro true 3 r1, .int .i64 r2], [] => Hold (F32 k r1 r2 (fun z0 => K (.usl 3 z0) []))
  | _, _ => False
def T37 (k : Nat) : Fn PU := fun args boxes K => match args, boxes with
  | [.ro true 3 r1], [] => Hold (F37 k r1 (fun z0 => K (.bool z0) []))
  | [.ro false 3 r1], [] => Hold (F37 k r1 (fun z0 => K (.bool z0) []))
  | _, _ => False
def T19 (k : Nat) : Fn PU := fun args boxes K => match args, boxes with
  | [.agg [.ro true 3 r1, .ro true 3 r2]], [] => Hold (F19 k r1 r2 (fun z0 => K (.bool z0) []))
  | [.agg [.ro false 3 r1, .ro false 3 r2]], [] => Hold (F19 k r1 r2 (fun z0 => K (.bool z0) []))
  | _, _ => False
def T33 (k : Nat) : Fn PU := fun args boxes K => match args, boxes with
  | [.ro true 3 r1, .int .i64 r2], [] => Hold (F33 k r1 r2 (fun z0 => K (.usl 3 z0) []))
  | _, _ => False
def T12 (k : Nat) : Fn PU := fun args boxes K => match args, boxes with
  | [.agg [.ro true 3 r1, .ro true 3 r2], .agg [.int .i64 r3, .int .i64 r4]], [] => Hold (F12 k r1 r2 r3 r4 (fun z0 z1 z2 => K (.tup [.agg [.usl 3 z0, .usl 3 z1], .int .i64 z2]) []))
  | _, _ => False
def T34 (k : Nat) : Fn PU := fun args boxes K => match args, boxes with
  | [.ro true 3 r1, .ro true 3 r2], [] => Hold (F34 k r1 r2 (fun z0 => K (.bool z0) []))
  | [.ro false 3 r1, .ro true 3 r2], [] => Hold (F34 k r1 r2 (fun z0 => K (.bool z0) []))
  | [.ro true 3 r1, .ro false 3 r2], [] => Hold (F34 k r1 r2 (fun z0 => K (.bool z0) []))
  | _, _ => False
def T13 (k : Nat) : Fn PU := fun args boxes K => match args, boxes with
  | [.agg [.ro true 3 r1, .ro true 3 r2], .agg [.ro true 3 r3, .ro true 3 r4]], [] => Hold (F13 k r1 r2 r3 r4 (fun z0 => K (.bool z0) []))
  | [.agg [.ro false 3 r1, .ro false 3 r2], .agg [.ro true 3 r3, .ro true 3 r4]], [] => Hold (F13 k r1 r2 r3 r4 (fun z0 => K (.bool z0) []))
  | [.agg [.ro true 3 r1, .ro true 3 r2], .agg [.ro false 3 r3, .ro false 3 r4]], [] => Hold (F13 k r1 r2 r3 r4 (fun z0 => K (.bool z0) []))
  | _, _ => False
def T35 (k : Nat) : Fn PU := fun args boxes K => match args, boxes with
  | [], [] => Hold (F35 k (fun z0 z1 => K (.agg [.usl 3 z0, .usl 3 z1]) []))
  | _, _ => False
def T14 (k : Nat) : Fn PU := fun args boxes K => match args, boxes with
  | [], [] => Hold (F14 k (fun z0 => K (.bool z0) []))
  | _, _ => False
def T3 (k : Nat) : Fn PU := fun args boxes K => match args, boxes with
  | [.agg [.ro false 3 r1, .ro false 3 r2], .agg [.int .i64 r3, .int .i64 r4]], [] => Hold (F3 k r1 r2 r3 r4 (fun z0 => K (.bool z0) []))
  | _, _ => False
def T16 (k : Nat) : Fn PU := fun args boxes K => match args, boxes with
  | [.agg [.ro false 3 r1, .ro false 3 r2]], [] => Hold (F16 k r1 r2 (fun z0 => K (.usl 3 z0) []))
  | [.agg [.ro true 3 r1, .ro true 3 r2]], [] => Hold (F16 k r1 r2 (fun z0 => K (.usl 3 z0) []))
  | _, _ => False
def T18 (k : Nat) : Fn PU := fun args boxes K => match args, boxes with
  | [.agg [.ro true 3 r1, .ro true 3 r2]], [] => Hold (F18 k r1 r2 (fun z0 => K (.usl 3 z0) []))
  | _, _ => False
def T17 (k : Nat) : Fn PU := fun args boxes K => match args, boxes with
  | [.ro true 3 r1, .ro true 3 r2], [] => Hold (F17 k r1 r2 (fun z0 => K (.bool z0) []))
  | _, _ => False
def T44 (k : Nat) : Fn PU := fun args boxes K => match args, boxes with
  | [.int .u8 r1], [] => Hold (F44 k r1 (fun z0 => K (.int .i64 z0) []))
  | _, _ => False
def T38 (k : Nat) : Fn PU := fun args boxes K => match args, boxes with
  | [.int .u8 r1], [] => Hold (F38 k r1 (fun z0 => K (.int .i64 z0) []))
  | _, _ => False
def T21 (k : Nat) : Fn PU := fun args boxes K => match args, boxes with
  | [.agg [.ro true 3 r1, .ro true 3 r2], .ro true 3 r3], [] => Hold (F21 k r1 r2 r3 (fun z0 => K (.bool z0) []))
  | [.agg [.ro false 3 r1, .ro false 3 r2], .ro false 3 r3], [] => Hold (F21 k r1 r2 r3 (fun z0 => K (.bool z0) []))
  | [.agg [.ro true 3 r1, .ro true 3 r2], .ro false 3 r3], [] => Hold (F21 k r1 r2 r3 (fun z0 => K (.bool z0) []))
  | [.agg [.ro false 3 r1, .ro false 3 r2], .ro true 3 r3], [] => Hold (F21 k r1 r2 r3 (fun z0 => K (.bool z0) []))
  | _, _ => False
def T45 (k : Nat) : Fn PU := fun args boxes K => match args, boxes with
  | [.ro true 3 r1, .int .i64 r2], [] => Hold (F45 k r1 r2 (fun z0 => K (.int .i64 z0) []))
  | [.ro false 3 r1, .int .i64 r2], [] => Hold (F45 k r1 r2 (fun z0 => K (.int .i64 z0) []))
  | _, _ => False
def T39 (k : Nat) : Fn PU := fun args boxes K => match args, boxes with
  | [.ro true 3 r1, .int .i64 r2], [] => Hold (F39 k r1 r2 (fun z0 => K (.bool z0) []))
  | [.ro false 3 r1, .int .i64 r2], [] => Hold (F39 k r1 r2 (fun z0 => K (.bool z0) []))
  | _, _ => False
def T23 (k : Nat) : Fn PU := fun args boxes K => match args, boxes with
  | [.agg [.ro true 3 r1, .ro true 3 r2], .int .i64 r3], [] => Hold (F23 k r1 r2 r3 (fun z0 => K (.bool z0) []))
  | [.agg [.ro false 3 r1, .ro false 3 r2], .int .i64 r3], [] => Hold (F23 k r1 r2 r3 (fun z0 => K (.bool z0) []))
  | _, _ => False
def T20 (k : Nat) : Fn PU := fun args boxes K => match args, boxes with
  | [], [] => Hold (F20 k (fun z0 => K (.bool z0) []))
  | _, _ => False
def T22 (k : Nat) : Fn PU := fun args boxes K => match args, boxes with
  | [.agg [.ro true 3 r1, .ro true 3 r2], .ro false 3 r3], [] => Hold (F22 k r1 r2 r3 (fun z0 => K (.bool z0) []))
  | [.agg [.ro false 3 r1, .ro false 3 r2], .ro true 3 r3], [] => Hold (F22 k r1 r2 r3 (fun z0 => K (.bool z0) []))
  | _, _ => False
def T24 (k : Nat) : Fn PU := fun args boxes K => match args, boxes with
  | [.agg [.ro true 3 r1, .ro true 3 r2], .int .i64 r3], [] => Hold (F24 k r1 r2 r3 (fun z0 => K (.bool z0) []))
  | _, _ => False
def T4 (k : Nat) : Fn PU := fun args boxes K => match args, boxes with
  | [.agg [.ro false 3 r1, .ro false 3 r2], .ro false 3 r3, .int .i64 r4], [] => Hold (F4 k r1 r2 r3 r4 (fun z0 => K (.bool z0) []))
  | _, _ => False
def T5 (k : Nat) : Fn PU := fun args boxes K => match args, boxes with
  | [.agg [.ro false 3 r1, .ro false 3 r2], .agg [.int .i64 r3, .int .i64 r4], .ro false 3 r5, .ro false 3 r6], [] => Hold (F5 k r1 r2 r3 r4 r5 r6 (fun z0 => K (.bool z0) []))
  | _, _ => False
def T6 (k : Nat) : Fn PU := fun args boxes K => match args, boxes with
  | [.agg [.ro false 3 r1, .ro false 3 r2], .int .i64 r3], [] => Hold (F6 k r1 r2 r3 (fun z0 => K (.bool z0) []))
  | _, _ => False
def T41 (k : Nat) : Fn PU := fun args boxes K => match args, boxes with
  | [.ro true 3 r1], [] => Hold (F41 k r1 (fun z0 => K (.usl 3 z0) []))
  | [.ro false 3 r1], [] => Hold (F41 k r1 (fun z0 => K (.usl 3 z0) []))
  | _, _ => False
def T42 (k : Nat) : Fn PU := fun args boxes K => match args, boxes with
  | [.own 0], [.lst 3 r1] => Hold (F42 k r1 (fun z0 => K (.tup []) [.lst 3 z0]))
  | _, _ => False
def T43 (k : Nat) : Fn PU := fun args boxes K => match args, boxes with
  | [.own 0], [.lst 3 r1] => Hold (F43 k r1 (fun z0 => K (.clo 48 [.ptr 1 []]) [.lst 3 z0, .box (.own 0)]))
  | _, _ => False
def T40 (k : Nat) : Fn PU := fun args boxes K => match args, boxes with
  | [.int .i64 r1, .ptr 0 [], .ptr 1 [], .ptr 2 []], [.box (.ro true 3 r2), .box (.ro true 3 r3), .box (.agg [.ro true 3 r4, .ro true 3 r5])] => Hold (F40 k r1 r2 r3 r4 r5 (fun z0 z1 z2 z3 z4 => K (.bool z0) [.box (.ro true 3 z1), .box (.ro true 3 z2), .box (.agg [.ro true 3 z3, .ro true 3 z4])]))
  | [.int .i64 r1, .ptr 0 [], .ptr 1 [], .ptr 2 []], [.box (.ro false 3 r2), .box (.ro false 3 r3), .box (.agg [.ro false 3 r4, .ro false 3 r5])] => Hold (F40 k r1 r2 r3 r4 r5 (fun z0 z1 z2 z3 z4 => K (.bool z0) [.box (.ro false 3 z1), .box (.ro false 3 z2), .box (.agg [.ro false 3 z3, .ro false 3 z4])]))
  | _, _ => False
def T26y7 (k : Nat) : Fn PU := fun args boxes K => match args, boxes with
  | [.int .i64 r1, .int .i64 r2, .ptr 0 [], .ptr 1 []], [.box (.int .i64 r3), .box (.clo 40 [.ptr 2 [], .ptr 3 [], .ptr 4 []]), .box (.ro true 3 r4), .box (.ro true 3 r5), .box (.agg [.ro true 3 r6, .ro true 3 r7])] => Hold (F26y7 k r1 r2 r3 r4 r5 r6 r7 (fun z0 z1 z2 z3 z4 => K (.clo 1 []) [.box (.int .i64 z0), .box (.clo 40 [.ptr 2 [], .ptr 3 [], .ptr 4 []]), .box (.ro true 3 z1), .box (.ro true 3 z2), .box (.agg [.ro true 3 z3, .ro true 3 z4])]) (fun z0 z1 z2 z3 z4 => K (.clo 0 []) [.box (.int .i64 z0), .box (.clo 40 [.ptr 2 [], .ptr 3 [], .ptr 4 []]), .box (.ro true 3 z1), .box (.ro true 3 z2), .box (.agg [.ro true 3 z3, .ro true 3 z4])]))
  | [.int .i64 r1, .int .i64 r2, .ptr 0 [], .ptr 1 []], [.box (.int .i64 r3), .box (.clo 40 [.ptr 2 [], .ptr 3 [], .ptr 4 []]), .box (.ro false 3 r4), .box (.ro false 3 r5), .box (.agg [.ro false 3 r6, .ro false 3 r7])] => Hold (F26y7 k r1 r2 r3 r4 r5 r6 r7 (fun z0 z1 z2 z3 z4 => K (.clo 1 []) [.box (.int .i64 z0), .box (.clo 40 [.ptr 2 [], .ptr 3 [], .ptr 4 []]), .box (.ro false 3 z1), .box (.ro false 3 z2), .box (.agg [.ro false 3 z3, .ro false 3 z4])]) (fun z0 z1 z2 z3 z4 => K (.clo 0 []) [.box (.int .i64 z0), .box (.clo 40 [.ptr 2 [], .ptr 3 [], .ptr 4 []]), .box (.ro false 3 z1), .box (.ro false 3 z2), .box (.agg [.ro false 3 z3, .ro false 3 z4])]))
  | _, _ => False
def T48 (k : Nat) : Fn PU := fun args boxes K => match args, boxes with
  | [.yld 0, .ptr 1 []], [.lp 26 7 [6, 7] [.ptr 2 [], .ptr 3 []] 0, .box (.own 4), .box (.int .i64 r1), .box (.clo 40 [.ptr 5 [], .ptr 6 [], .ptr 7 []]), .lst 3 r2, .box (.ro true 3 r3), .box (.ro true 3 r4), .box (.agg [.ro true 3 r5, .ro true 3 r6])] => Hold (F48 k r1 r2 r3 r4 r5 r6 (fun z0 z1 z2 z3 z4 z5 => K (.tup []) [.lp 26 7 [6, 7] [.ptr 2 [], .ptr 3 []] 1, .box (.own 4), .box (.int .i64 z0), .box (.clo 40 [.ptr 5 [], .ptr 6 [], .ptr 7 []]), .lst 3 z1, .box (.ro true 3 z2), .box (.ro true 3 z3), .box (.agg [.ro true 3 z4, .ro true 3 z5])]) (fun z0 z1 z2 z3 z4 z5 => K (.tup []) [.lp 26 7 [6, 7] [.ptr 2 [], .ptr 3 []] 0, .box (.own 4), .box (.int .i64 z0), .box (.clo 40 [.ptr 5 [], .ptr 6 [], .ptr 7 []]), .lst 3 z1, .box (.ro true 3 z2), .box (.ro true 3 z3), .box (.agg [.ro true 3 z4, .ro true 3 z5])]))
  | [.yld 0, .ptr 1 []], [.lp 26 7 [6, 7] [.ptr 2 [], .ptr 3 []] 0, .box (.own 4), .box (.int .i64 r1), .box (.clo 40 [.ptr 5 [], .ptr 6 [], .ptr 7 []]), .lst 3 r2, .box (.ro false 3 r3), .box (.ro false 3 r4), .box (.agg [.ro false 3 r5, .ro false 3 r6])] => Hold (F48 k r1 r2 r3 r4 r5 r6 (fun z0 z1 z2 z3 z4 z5 => K (.tup []) [.lp 26 7 [6, 7] [.ptr 2 [], .ptr 3 []] 1, .box (.own 4), .box (.int .i64 z0), .box (.clo 40 [.ptr 5 [], .ptr 6 [], .ptr 7 []]), .lst 3 z1, .box (.ro false 3 z2), .box (.ro false 3 z3), .box (.agg [.ro false 3 z4, .ro false 3 z5])]) (fun z0 z1 z2 z3 z4 z5 => K (.tup []) [.lp 26 7 [6, 7] [.ptr 2 [], .ptr 3 []] 0, .box (.own 4), .box (.int .i64 z0), .box (.clo 40 [.ptr 5 [], .ptr 6 [], .ptr 7 []]), .lst 3 z1, .box (.ro false 3 z2), .box (.ro false 3 z3), .box (.agg [.ro false 3 z4, .ro false 3 z5])]))
  | _, _ => False
def T26 (k : Nat) : Fn PU := fun args boxes K => match args, boxes with
  | [.agg [.ro true 3 r1, .ro true 3 r2], .ro true 3 r3, .ro true 3 r4], [] => Hold (F26 k r1 r2 r3 r4 (fun z0 => K (.int .i64 z0) []))
  | [.agg [.ro false 3 r1, .ro false 3 r2], .ro false 3 r3, .ro false 3 r4], [] => Hold (F26 k r1 r2 r3 r4 (fun z0 => K (.int .i64 z0) []))
  | _, _ => False
def T25 (k : Nat) : Fn PU := fun args boxes K => match args, boxes with
  | [], [] => Hold (F25 k (fun z0 => K (.bool z0) []))
  | _, _ => False
def T27 (k : Nat) : Fn PU := fun args boxes K => match args, boxes with
  | [.agg [.ro false 3 r1, .ro false 3 r2], .ro false 3 r3, .ro false 3 r4], [] => Hold (F27 k r1 r2 r3 r4 (fun z0 => K (.int .i64 z0) []))
  | _, _ => False
def T7 (k : Nat) : Fn PU := fun args boxes K => match args, boxes with
  | [.agg [.ro false 3 r1, .ro false 3 r2], .ro false 3 r3, .ro false 3 r4], [] => Hold (F7 k r1 r2 r3 r4 (fun z0 => K (.bool z0) []))
  | _, _ => False
def T8 (k : Nat) : Fn PU := fun args boxes K => match args, boxes with
  | [.agg [.ro false 3 r1, .ro false 3 r2], .ro false 3 r3, .ro false 3 r4], [] => Hold (F8 k r1 r2 r3 r4 (fun z0 => K (.bool z0) []))
  | _, _ => False
def D29_3 (k : Nat) : Nat → List (A PU) → List (AObj PU) → (A PU → List (AObj PU) → Prop) → Prop := fun nb vals objs K => match nb, vals, objs with
  | 0, [.int .u8 r2, .ro false 3 r3, .int .i64 r4, .int .i64 r5], [] => Hold (C29_3 k r2 r3 r4 r5 (fun z0 => K (.int .u8 z0) []))
  | 0, [.int .u8 r2, .ro true 3 r3, .int .i64 r4, .int .i64 r5], [] => Hold (C29_3 k r2 r3 r4 r5 (fun z0 => K (.int .u8 z0) []))
  | _, _, _ => False
def D29_7 (k : Nat) : Nat → List (A PU) → List (AObj PU) → (A PU → List (AObj PU) → Prop) → Prop := fun nb vals objs K => match nb, vals, objs with
  | 0, [.int .u8 r6, .ro false 3 r7, .int .i64 r8, .int .i64 r9], [] => Hold (C29_7 k r6 r7 r8 r9 (fun z0 => K (.int .u8 z0) []))
  | 0, [.int .u8 r6, .ro true 3 r7, .int .i64 r8, .int .i64 r9], [] => Hold (C29_7 k r6 r7 r8 r9 (fun z0 => K (.int .u8 z0) []))
  | _, _, _ => False
def D30_3 (k : Nat) : Nat → List (A PU) → List (AObj PU) → (A PU → List (AObj PU) → Prop) → Prop := fun nb vals objs K => match nb, vals, objs with
  | 0, [.int .u8 r2, .own 0, .int .i64 r3], [.lst 3 r4] => Hold (C30_3 k r2 r3 r4 (fun z0 => K (.usl 3 z0) []))
  | _, _, _ => False
def D36_4 (k : Nat) : Nat → List (A PU) → List (AObj PU) → (A PU → List (AObj PU) → Prop) → Prop := fun nb vals objs K => match nb, vals, objs with
  | 0, [.ro true 3 r3, .ro false 3 r4, .int .i64 r5, .int .i64 r6], [] => Hold (C36_4 k r3 r4 r5 r6 (fun z0 => K (.bool z0) []))
  | 0, [.ro true 3 r3, .ro true 3 r4, .int .i64 r5, .int .i64 r6], [] => Hold (C36_4 k r3 r4 r5 r6 (fun z0 => K (.bool z0) []))
  | _, _, _ => False
def D11_5 (k : Nat) : Nat → List (A PU) → List (AObj PU) → (A PU → List (AObj PU) → Prop) → Prop := fun nb vals objs K => match nb, vals, objs with
  | 0, [.ptr 0 [], .int .u8 r9, .int .u8 r10, .int .u8 r11, .bool r12, .int .i64 r13], [.box (.agg [.own 1, .own 2]), .lst 3 r14, .lst 3 r15] => Hold (C11_5 k r9 r10 r11 r12 r13 r14 r15 (fun z0 z1 z2 => K (.tup [.agg [.usl 3 z0, .usl 3 z1], .int .i64 z2]) []))
  | _, _, _ => False
def D11_14 (k : Nat) : Nat → List (A PU) → List (AObj PU) → (A PU → List (AObj PU) → Prop) → Prop := fun nb vals objs K => match nb, vals, objs with
  | 0, [.ptr 0 [], .int .u8 r16, .int .u8 r17, .bool r18], [.box (.agg [.own 1, .own 2]), .lst 3 r19, .lst 3 r20] => Hold (C11_14 k r16 r17 r18 r19 r20 (fun z0 z1 z2 => K (.tup [.agg [.usl 3 z0, .usl 3 z1], .int .i64 z2]) []))
  | _, _, _ => False
def D31_2 (k : Nat) : Nat → List (A PU) → List (AObj PU) → (A PU → List (AObj PU) → Prop) → Prop := fun nb vals objs K => match nb, vals, objs with
  | 0, [.ro true 3 r3, .int .i64 r4, .int .i64 r5], [] => Hold (C31_2 k r3 r4 r5 (fun z0 => K (.bool z0) []))
  | 0, [.ro false 3 r3, .int .i64 r4, .int .i64 r5], [] => Hold (C31_2 k r3 r4 r5 (fun z0 => K (.bool z0) []))
  | _, _, _ => False
def D32_3 (k : Nat) : Nat → List (A PU) → List (AObj PU) → (A PU → List (AObj PU) → Prop) → Prop := fun nb vals objs K => match nb, vals, objs with
  | 0, [.ro true 3 r3, .int .i64 r4, .own 0, .int .i64 r5], [.lst 3 r6] => Hold (C32_3 k r3 r4 r5 r6 (fun z0 => K (.usl 3 z0) []))
  | _, _, _ => False
def D37_2 (k : Nat) : Nat → List (A PU) → List (AObj PU) → (A PU → List (AObj PU) → Prop) → Prop := fun nb vals objs K => match nb, vals, objs with
  | 0, [.ro true 3 r2, .int .i64 r3], [] => Hold (C37_2 k r2 r3 (fun z0 => K (.bool z0) []))
  | 0, [.ro false 3 r2, .int .i64 r3], [] => Hold (C37_2 k r2 r3 (fun z0 => K (.bool z0) []))
  | _, _, _ => False
def D19_4 (k : Nat) : Nat → List (A PU) → List (AObj PU) → (A PU → List (AObj PU) → Prop) → Prop := fun nb vals objs K => match nb, vals, objs with
  | 0, [.ptr 0 [], .int .i64 r5], [.box (.agg [.ro true 3 r6, .ro true 3 r7])] => Hold (C19_4 k r5 r6 r7 (fun z0 => K (.bool z0) []))
  | 0, [.ptr 0 [], .int .i64 r5], [.box (.agg [.ro false 3 r6, .ro false 3 r7])] => Hold (C19_4 k r5 r6 r7 (fun z0 => K (.bool z0) []))
  | _, _, _ => False
def D33_3 (k : Nat) : Nat → List (A PU) → List (AObj PU) → (A PU → List (AObj PU) → Prop) → Prop := fun nb vals objs K => match nb, vals, objs with
  | 0, [.ro true 3 r3, .int .i64 r4, .own 0, .int .i64 r5], [.lst 3 r6] => Hold (C33_3 k r3 r4 r5 r6 (fun z0 => K (.usl 3 z0) []))
  | _, _, _ => False
def D12_8 (k : Nat) : Nat → List (A PU) → List (AObj PU) → (A PU → List (AObj PU) → Prop) → Prop := fun nb vals objs K => match nb, vals, objs with
  | 0, [.ptr 0 [], .int .i64 r10, .bool r11, .bool r12, .ptr 1 [], .bool r13, .int .i64 r14], [.box (.agg [.own 2, .own 3]), .box (.agg [.own 4, .own 5]), .lst 3 r15, .lst 3 r16, .lst 3 r17, .lst 3 r18] => Hold (C12_8 k r10 r11 r12 r13 r14 r15 r16 r17 r18 (fun z0 z1 z2 => K (.tup [.agg [.usl 3 z0, .usl 3 z1], .int .i64 z2]) []))
  | _, _, _ => False
def D12_16 (k : Nat) : Nat → List (A PU) → List (AObj PU) → (A PU → List (AObj PU) → Prop) → Prop := fun nb vals objs K => match nb, vals, objs with
  | 0, [.ptr 0 [], .ptr 1 [], .bool r20], [.box (.agg [.own 2, .own 3]), .box (.agg [.own 4, .own 5]), .lst 3 r21, .lst 3 r22, .lst 3 r23, .lst 3 r24] => Hold (C12_16 k r20 r21 r22 r23 r24 (fun z0 z1 z2 => K (.tup [.agg [.usl 3 z0, .usl 3 z1], .int .i64 z2]) []))
  | _, _, _ => False
def D34_4 (k : Nat) : Nat → List (A PU) → List (AObj PU) → (A PU → List (AObj PU) → Prop) → Prop := fun nb vals objs K => match nb, vals, objs with
  | 0, [.ro true 3 r3, .ro true 3 r4, .int .i64 r5], [] => Hold (C34_4 k r3 r4 r5 (fun z0 => K (.bool z0) []))
  | 0, [.ro false 3 r3, .ro true 3 r4, .int .i64 r5], [] => Hold (C34_4 k r3 r4 r5 (fun z0 => K (.bool z0) []))
  | 0, [.ro true 3 r3, .ro false 3 r4, .int .i64 r5], [] => Hold (C34_4 k r3 r4 r5 (fun z0 => K (.bool z0) []))
  | _, _, _ => False
def D3_8 (k : Nat) : Nat → List (A PU) → List (AObj PU) → (A PU → List (AObj PU) → Prop) → Prop := fun nb vals objs K => match nb, vals, objs with
  | 0, [.ptr 0 [], .ptr 1 [], .ptr 2 [], .bool r15, .int .i64 r16], [.box (.agg [.ro false 3 r17, .ro false 3 r18]), .box (.agg [.own 3, .own 4]), .box (.agg [.own 5, .own 6]), .lst 3 r19, .lst 3 r20, .lst 3 r21, .lst 3 r22] => Hold (C3_8 k r15 r16 r17 r18 r19 r20 r21 r22 (fun z0 => K (.bool z0) []))
  | _, _, _ => False
def D3_12 (k : Nat) : Nat → List (A PU) → List (AObj PU) → (A PU → List (AObj PU) → Prop) → Prop := fun nb vals objs K => match nb, vals, objs with
  | 0, [.ptr 0 [], .ptr 1 [], .ptr 2 [], .bool r23, .int .i64 r24], [.box (.agg [.ro false 3 r25, .ro false 3 r26]), .box (.agg [.own 3, .own 4]), .box (.agg [.own 5, .own 6]), .lst 3 r27, .lst 3 r28, .lst 3 r29, .lst 3 r30] => Hold (C3_12 k r23 r24 r25 r26 r27 r28 r29 r30 (fun z0 => K (.bool z0) []))
  | _, _, _ => False
def D18_3 (k : Nat) : Nat → List (A PU) → List (AObj PU) → (A PU → List (AObj PU) → Prop) → Prop := fun nb vals objs K => match nb, vals, objs with
  | 0, [.ptr 0 [], .own 1, .int .i64 r3], [.box (.agg [.ro true 3 r4, .ro true 3 r5]), .lst 3 r6] => Hold (C18_3 k r3 r4 r5 r6 (fun z0 => K (.usl 3 z0) []))
  | _, _, _ => False
def D17_4 (k : Nat) : Nat → List (A PU) → List (AObj PU) → (A PU → List (AObj PU) → Prop) → Prop := fun nb vals objs K => match nb, vals, objs with
  | 0, [.ro true 3 r3, .ro true 3 r4, .int .i64 r5], [] => Hold (C17_4 k r3 r4 r5 (fun z0 => K (.bool z0) []))
  | _, _, _ => False
def D45_2 (k : Nat) : Nat → List (A PU) → List (AObj PU) → (A PU → List (AObj PU) → Prop) → Prop := fun nb vals objs K => match nb, vals, objs with
  | 0, [.ro true 3 r3, .int .i64 r4, .int .i64 r5, .int .i64 r6], [] => Hold (C45_2 k r3 r4 r5 r6 (fun z0 => K (.int .i64 z0) []))
  | 0, [.ro false 3 r3, .int .i64 r4, .int .i64 r5, .int .i64 r6], [] => Hold (C45_2 k r3 r4 r5 r6 (fun z0 => K (.int .i64 z0) []))
  | _, _, _ => False
def D22_3 (k : Nat) : Nat → List (A PU) → List (AObj PU) → (A PU → List (AObj PU) → Prop) → Prop := fun nb vals objs K => match nb, vals, objs with
  | 0, [.ro false 3 r4, .ptr 0 [], .int .i64 r5, .int .i64 r6], [.box (.agg [.ro true 3 r7, .ro true 3 r8])] => Hold (C22_3 k r4 r5 r6 r7 r8 (fun z0 => K (.bool z0) []))
  | 0, [.ro true 3 r4, .ptr 0 [], .int .i64 r5, .int .i64 r6], [.box (.agg [.ro false 3 r7, .ro false 3 r8])] => Hold (C22_3 k r4 r5 r6 r7 r8 (fun z0 => K (.bool z0) []))
  | _, _, _ => False
def D4_8 (k : Nat) : Nat → List (A PU) → List (AObj PU) → (A PU → List (AObj PU) → Prop) → Prop := fun nb vals objs K => match nb, vals, objs with
  | 0, [.ro false 3 r12, .int .i64 r13, .ptr 0 [], .ptr 1 [], .int .i64 r14, .own 2, .bool r15, .int .i64 r16], [.box (.agg [.ro false 3 r17, .ro false 3 r18]), .box (.agg [.own 3, .own 4]), .lst 3 r19, .lst 3 r20, .lst 3 r21] => Hold (C4_8 k r12 r13 r14 r15 r16 r17 r18 r19 r20 r21 (fun z0 => K (.bool z0) []))
  | _, _, _ => False
def D4_12 (k : Nat) : Nat → List (A PU) → List (AObj PU) → (A PU → List (AObj PU) → Prop) → Prop := fun nb vals objs K => match nb, vals, objs with
  | 0, [.ro false 3 r23, .int .i64 r24, .ptr 0 [], .ptr 1 [], .bool r25, .bool r26], [.box (.agg [.ro false 3 r27, .ro false 3 r28]), .box (.agg [.own 2, .own 3]), .lst 3 r29, .lst 3 r30] => Hold (C4_12 k r23 r24 r25 r26 r27 r28 r29 r30 (fun z0 => K (.bool z0) []))
  | _, _, _ => False
def D5_8 (k : Nat) : Nat → List (A PU) → List (AObj PU) → (A PU → List (AObj PU) → Prop) → Prop := fun nb vals objs K => match nb, vals, objs with
  | 0, [.ro false 3 r11, .ro false 3 r12, .ptr 0 [], .ptr 1 []], [.box (.agg [.ro false 3 r13, .ro false 3 r14]), .box (.agg [.ro false 3 r15, .ro false 3 r16])] => Hold (C5_8 k r11 r12 r13 r14 r15 r16 (fun z0 => K (.bool z0) []))
  | 0, [.ro false 3 r57, .ro false 3 r58, .ptr 0 [], .ptr 1 []], [.box (.agg [.ro false 3 r59, .ro false 3 r60]), .box (.agg [.own 2, .own 3]), .lst 3 r61, .lst 3 r62] => Hold (C5_8 k r57 r58 r59 r60 r61 r62 (fun z0 => K (.bool z0) []))
  | _, _, _ => False
def D5_9 (k : Nat) : Nat → List (A PU) → List (AObj PU) → (A PU → List (AObj PU) → Prop) → Prop := fun nb vals objs K => match nb, vals, objs with
  | 0, [], [] => Hold (C5_9 k (fun z0 => K (.bool z0) []))
  | _, _, _ => False
def D5_11 (k : Nat) : Nat → List (A PU) → List (AObj PU) → (A PU → List (AObj PU) → Prop) → Prop := fun nb vals objs K => match nb, vals, objs with
  | 0, [.ro false 3 r21, .ro false 3 r22, .ptr 0 [], .ptr 1 [], .int .i64 r23], [.box (.agg [.ro false 3 r24, .ro false 3 r25]), .box (.agg [.ro false 3 r26, .ro false 3 r27])] => Hold (C5_11 k r21 r22 r23 r24 r25 r26 r27 (fun z0 => K (.bool z0) []))
  | 0, [.ro false 3 r65, .ro false 3 r66, .ptr 0 [], .ptr 1 [], .int .i64 r67], [.box (.agg [.ro false 3 r68, .ro false 3 r69]), .box (.agg [.own 2, .own 3]), .lst 3 r70, .lst 3 r71] => Hold (C5_11 k r65 r66 r67 r68 r69 r70 r71 (fun z0 => K (.bool z0) []))
  | _, _, _ => False
def D5_14 (k : Nat) : Nat → List (A PU) → List (AObj PU) → (A PU → List (AObj PU) → Prop) → Prop := fun nb vals objs K => match nb, vals, objs with
  | 0, [.ro false 3 r28, .ro false 3 r29, .ptr 0 [], .ptr 1 [], .int .i64 r30, .int .i64 r31], [.box (.agg [.ro false 3 r32, .ro false 3 r33]), .box (.agg [.ro false 3 r34, .ro false 3 r35])] => Hold (C5_14 k r28 r29 r30 r31 r32 r33 r34 r35 (fun z0 => K (.bool z0) []))
  | 0, [.ro false 3 r72, .ro false 3 r73, .ptr 0 [], .ptr 1 [], .int .i64 r74, .int .i64 r75], [.box (.agg [.ro false 3 r76, .ro false 3 r77]), .box (.agg [.own 2, .own 3]), .lst 3 r78, .lst 3 r79] => Hold (C5_14 k r72 r73 r74 r75 r76 r77 r78 r79 (fun z0 => K (.bool z0) []))
  | _, _, _ => False
def D5_16 (k : Nat) : Nat → List (A PU) → List (AObj PU) → (A PU → List (AObj PU) → Prop) → Prop := fun nb vals objs K => match nb, vals, objs with
  | 0, [.ro false 3 r36, .ro false 3 r37, .ptr 0 [], .ptr 1 [], .int .i64 r38, .int .i64 r39], [.box (.agg [.ro false 3 r40, .ro false 3 r41]), .box (.agg [.ro false 3 r42, .ro false 3 r43])] => Hold (C5_16 k r36 r37 r38 r39 r40 r41 r42 r43 (fun z0 => K (.bool z0) []))
  | 0, [.ro false 3 r80, .ro false 3 r81, .ptr 0 [], .ptr 1 [], .int .i64 r82, .int .i64 r83], [.box (.agg [.ro false 3 r84, .ro false 3 r85]), .box (.agg [.own 2, .own 3]), .lst 3 r86, .lst 3 r87] => Hold (C5_16 k r80 r81 r82 r83 r84 r85 r86 r87 (fun z0 => K (.bool z0) []))
  | _, _, _ => False
def D5_15 (k : Nat) : Nat → List (A PU) → List (AObj PU) → (A PU → List (AObj PU) → Prop) → Prop := fun nb vals objs K => match nb, vals, objs with
  | 0, [.ro false 3 r48, .ro false 3 r49, .ptr 0 [], .ptr 1 [], .int .i64 r50, .int .i64 r51], [.box (.agg [.ro false 3 r52, .ro false 3 r53]), .box (.agg [.ro false 3 r54, .ro false 3 r55])] => Hold (C5_15 k r48 r49 r50 r51 r52 r53 r54 r55 (fun z0 => K (.bool z0) []))
  | 0, [.ro false 3 r92, .ro false 3 r93, .ptr 0 [], .ptr 1 [], .int .i64 r94, .int .i64 r95], [.box (.agg [.ro false 3 r96, .ro false 3 r97]), .box (.agg [.own 2, .own 3]), .lst 3 r98, .lst 3 r99] => Hold (C5_15 k r92 r93 r94 r95 r96 r97 r98 r99 (fun z0 => K (.bool z0) []))
  | _, _, _ => False
def D6_10 (k : Nat) : Nat → List (A PU) → List (AObj PU) → (A PU → List (AObj PU) → Prop) → Prop := fun nb vals objs K => match nb, vals, objs with
  | 0, [.ptr 0 [], .int .i64 r23, .ptr 1 [], .int .i64 r24, .ptr 2 [], .int .i64 r25, .bool r26], [.box (.agg [.ro false 3 r27, .ro false 3 r28]), .box (.agg [.own 3, .own 4]), .box (.agg [.own 5, .own 6]), .lst 3 r29, .lst 3 r30, .lst 3 r31, .lst 3 r32] => Hold (C6_10 k r23 r24 r25 r26 r27 r28 r29 r30 r31 r32 (fun z0 => K (.bool z0) []))
  | _, _, _ => False
def D40_3 (k : Nat) : Nat → List (A PU) → List (AObj PU) → (A PU → List (AObj PU) → Prop) → Prop := fun nb vals objs K => match nb, vals, objs with
  | 3, [.int .i64 r6, .ptr 1 [], .ptr 2 [], .own 3, .ro true 3 r7, .int .i64 r8, .int .i64 r9], [.box (.ro true 3 r10), .box (.ro true 3 r11), .box (.agg [.ro true 3 r12, .ro true 3 r13]), .lst 3 r14] => Hold (C40_3 k r6 r7 r8 r9 r10 r11 r12 r13 r14 (fun z0 z1 z2 z3 z4 => K (.bool z0) [.box (.ro true 3 z1), .box (.ro true 3 z2), .box (.agg [.ro true 3 z3, .ro true 3 z4])]))
  | 3, [.int .i64 r6, .ptr 1 [], .ptr 2 [], .own 3, .ro false 3 r7, .int .i64 r8, .int .i64 r9], [.box (.ro false 3 r10), .box (.ro false 3 r11), .box (.agg [.ro false 3 r12, .ro false 3 r13]), .lst 3 r14] => Hold (C40_3 k r6 r7 r8 r9 r10 r11 r12 r13 r14 (fun z0 z1 z2 z3 z4 => K (.bool z0) [.box (.ro false 3 z1), .box (.ro false 3 z2), .box (.agg [.ro false 3 z3, .ro false 3 z4])]))
  | _, _, _ => False
def D48_1 (k : Nat) : Nat → List (A PU) → List (AObj PU) → (A PU → List (AObj PU) → Prop) → Prop := fun nb vals objs K => match nb, vals, objs with
  | 8, [.yld 0, .ptr 1 [], .int .i64 r7], [.lp 26 7 [6, 7] [.ptr 2 [], .ptr 3 []] 0, .box (.own 4), .box (.int .i64 r8), .box (.clo 40 [.ptr 5 [], .ptr 6 [], .ptr 7 []]), .lst 3 r9, .box (.ro true 3 r10), .box (.ro true 3 r11), .box (.agg [.ro true 3 r12, .ro true 3 r13])] => Hold (C48_1 k r7 r8 r9 r10 r11 r12 r13 (fun z0 z1 z2 z3 z4 z5 => K (.tup []) [.lp 26 7 [6, 7] [.ptr 2 [], .ptr 3 []] 1, .box (.own 4), .box (.int .i64 z0), .box (.clo 40 [.ptr 5 [], .ptr 6 [], .ptr 7 []]), .lst 3 z1, .box (.ro true 3 z2), .box (.ro true 3 z3), .box (.agg [.ro true 3 z4, .ro true 3 z5])]) (fun z0 z1 z2 z3 z4 z5 => K (.tup []) [.lp 26 7 [6, 7] [.ptr 2 [], .ptr 3 []] 0, .box (.own 4), .box (.int .i64 z0), .box (.clo 40 [.ptr 5 [], .ptr 6 [], .ptr 7 []]), .lst 3 z1, .box (.ro true 3 z2), .box (.ro true 3 z3), .box (.agg [.ro true 3 z4, .ro true 3 z5])]))
  | 8, [.yld 0, .ptr 1 [], .int .i64 r7], [.lp 26 7 [6, 7] [.ptr 2 [], .ptr 3 []] 0, .box (.own 4), .box (.int .i64 r8), .box (.clo 40 [.ptr 5 [], .ptr 6 [], .ptr 7 []]), .lst 3 r9, .box (.ro false 3 r10), .box (.ro false 3 r11), .box (.agg [.ro false 3 r12, .ro false 3 r13])] => Hold (C48_1 k r7 r8 r9 r10 r11 r12 r13 (fun z0 z1 z2 z3 z4 z5 => K (.tup []) [.lp 26 7 [6, 7] [.ptr 2 [], .ptr 3 []] 1, .box (.own 4), .box (.int .i64 z0), .box (.clo 40 [.ptr 5 [], .ptr 6 [], .ptr 7 []]), .lst 3 z1, .box (.ro false 3 z2), .box (.ro false 3 z3), .box (.agg [.ro false 3 z4, .ro false 3 z5])]) (fun z0 z1 z2 z3 z4 z5 => K (.tup []) [.lp 26 7 [6, 7] [.ptr 2 [], .ptr 3 []] 0, .box (.own 4), .box (.int .i64 z0), .box (.clo 40 [.ptr 5 [], .ptr 6 [], .ptr 7 []]), .lst 3 z1, .box (.ro false 3 z2), .box (.ro false 3 z3), .box (.agg [.ro false 3 z4, .ro false 3 z5])]))
  | _, _, _ => False
def D27_5 (k : Nat) : Nat → List (A PU) → List (AObj PU) → (A PU → List (AObj PU) → Prop) → Prop := fun nb vals objs K => match nb, vals, objs with
  | 0, [.ro false 3 r5, .ro false 3 r6, .ptr 0 [], .int .i64 r7, .int .i64 r8], [.box (.agg [.ro false 3 r9, .ro false 3 r10])] => Hold (C27_5 k r5 r6 r7 r8 r9 r10 (fun z0 => K (.int .i64 z0) []))
  | _, _, _ => False
def D27_9 (k : Nat) : Nat → List (A PU) → List (AObj PU) → (A PU → List (AObj PU) → Prop) → Prop := fun nb vals objs K => match nb, vals, objs with
  | 0, [.ro false 3 r11, .ro false 3 r12, .ptr 0 [], .int .i64 r13, .int .i64 r14, .own 1, .int .i64 r15], [.box (.agg [.ro false 3 r16, .ro false 3 r17]), .lst 3 r18] => Hold (C27_9 k r11 r12 r13 r14 r15 r16 r17 r18 (fun z0 => K (.int .i64 z0) []))
  | _, _, _ => False
def D8_2 (k : Nat) : Nat → List (A PU) → List (AObj PU) → (A PU → List (AObj PU) → Prop) → Prop := fun nb vals objs K => match nb, vals, objs with
  | 0, [], [] => Hold (C8_2 k (fun z0 => K (.bool z0) []))
  | _, _, _ => False
def D8_7 (k : Nat) : Nat → List (A PU) → List (AObj PU) → (A PU → List (AObj PU) → Prop) → Prop := fun nb vals objs K => match nb, vals, objs with
  | 0, [.ro false 3 r10, .ro false 3 r11, .ptr 0 [], .int .i64 r12, .own 1, .own 2, .int .i64 r13], [.box (.agg [.ro false 3 r14, .ro false 3 r15]), .lst 3 r16, .lst 3 r17] => Hold (C8_7 k r10 r11 r12 r13 r14 r15 r16 r17 (fun z0 => K (.bool z0) []))
  | _, _, _ => False
def D8_11 (k : Nat) : Nat → List (A PU) → List (AObj PU) → (A PU → List (AObj PU) → Prop) → Prop := fun nb vals objs K => match nb, vals, objs with
  | 0, [.ro false 3 r18, .ro false 3 r19, .ptr 0 [], .int .i64 r20, .own 1, .own 2, .int .i64 r21], [.box (.agg [.ro false 3 r22, .ro false 3 r23]), .lst 3 r24, .lst 3 r25] => Hold (C8_11 k r18 r19 r20 r21 r22 r23 r24 r25 (fun z0 => K (.bool z0) []))
  | _, _, _ => False
def PTr (k : Nat) : List (Nat × Fn PU) := [(9, T9 k), (28, T28 k), (10, T10 k), (29, T29 k), (30, T30 k), (36, T36 k), (15, T15 k), (11, T11 k), (31, T31 k), (32, T32 k), (37, T37 k), (19, T19 k), (33, T33 k), (12, T12 k), (34, T34 k), (13, T13 k), (35, T35 k), (14, T14 k), (3, T3 k), (16, T16 k), (18, T18 k), (17, T17 k), (44, T44 k), (38, T38 k), (21, T21 k), (45, T45 k), (39, T39 k), (23, T23 k), (20, T20 k), (22, T22 k), (24, T24 k), (4, T4 k), (5, T5 k), (6, T6 k), (41, T41 k), (42, T42 k), (43, T43 k), (40, T40 k), (27000007, T26y7 k), (48, T48 k), (26, T26 k), (25, T25 k), (27, T27 k), (7, T7 k), (8, T8 k)]
def PCr (k : Nat) : List (Nat × Nat × (Nat → List (A PU) → List (AObj PU) → (A PU → List (AObj PU) → Prop) → Prop)) := [(29, 3, D29_3 k), (29, 7, D29_7 k), (30, 3, D30_3 k), (36, 4, D36_4 k), (11, 5, D11_5 k), (11, 14, D11_14 k), (31, 2, D31_2 k), (32, 3, D32_3 k), (37, 2, D37_2 k), (19, 4, D19_4 k), (33, 3, D33_3 k), (12, 8, D12_8 k), (12, 16, D12_16 k), (34, 4, D34_4 k), (3, 8, D3_8 k), (3, 12, D3_12 k), (18, 3, D18_3 k), (17, 4, D17_4 k), (45, 2, D45_2 k), (22, 3, D22_3 k), (4, 8, D4_8 k), (4, 12, D4_12 k), (5, 8, D5_8 k), (5, 9, D5_9 k), (5, 11, D5_11 k), (5, 14, D5_14 k), (5, 16, D5_16 k), (5, 15, D5_15 k), (6, 10, D6_10 k), (40, 3, D40_3 k), (48, 1, D48_1 k), (27, 5, D27_5 k), (27, 9, D27_9 k), (8, 2, D8_2 k), (8, 7, D8_7 k), (8, 11, D8_11 k)]
def PT (k : Nat) : Tab PU := fun f => lookT f (PTr k)
def PC (k : Nat) : Cut PU := fun f id => lookC f id (PCr k)
theorem fnok9 : fnOk PE.P 9 = true := by kernel_rfl
theorem fnok28 : fnOk PE.P 28 = true := by kernel_rfl
theorem fnok10 : fnOk PE.P 10 = true := by kernel_rfl
theorem fnok29 : fnOk PE.P 29 = true := by kernel_rfl
theorem fnok30 : fnOk PE.P 30 = true := by kernel_rfl
theorem fnok36 : fnOk PE.P 36 = true := by kernel_rfl
theorem fnok15 : fnOk PE.P 15 = true := by kernel_rfl
theorem fnok11 : fnOk PE.P 11 = true := by kernel_rfl
theorem fnok31 : fnOk PE.P 31 = true := by kernel_rfl
theorem fnok32 : fnOk PE.P 32 = true := by kernel_rfl
theorem fnok37 : fnOk PE.P 37 = true := by kernel_rfl
theorem fnok19 : fnOk PE.P 19 = true := by kernel_rfl
theorem fnok33 : fnOk PE.P 33 = true := by kernel_rfl
theorem fnok12 : fnOk PE.P 12 = true := by kernel_rfl
theorem fnok34 : fnOk PE.P 34 = true := by kernel_rfl
theorem fnok13 : fnOk PE.P 13 = true := by kernel_rfl
theorem fnok35 : fnOk PE.P 35 = true := by kernel_rfl
theorem fnok14 : fnOk PE.P 14 = true := by kernel_rfl
theorem fnok3 : fnOk PE.P 3 = true := by kernel_rfl
theorem fnok16 : fnOk PE.P 16 = true := by kernel_rfl
theorem fnok18 : fnOk PE.P 18 = true := by kernel_rfl
theorem fnok17 : fnOk PE.P 17 = true := by kernel_rfl
theorem fnok44 : fnOk PE.P 44 = true := by kernel_rfl
theorem fnok38 : fnOk PE.P 38 = true := by kernel_rfl
theorem fnok21 : fnOk PE.P 21 = true := by kernel_rfl
theorem fnok45 : fnOk PE.P 45 = true := by kernel_rfl
theorem fnok39 : fnOk PE.P 39 = true := by kernel_rfl
theorem fnok23 : fnOk PE.P 23 = true := by kernel_rfl
theorem fnok20 : fnOk PE.P 20 = true := by kernel_rfl
theorem fnok22 : fnOk PE.P 22 = true := by kernel_rfl
theorem fnok24 : fnOk PE.P 24 = true := by kernel_rfl
theorem fnok4 : fnOk PE.P 4 = true := by kernel_rfl
theorem fnok5 : fnOk PE.P 5 = true := by kernel_rfl
theorem fnok6 : fnOk PE.P 6 = true := by kernel_rfl
theorem fnok41 : fnOk PE.P 41 = true := by kernel_rfl
theorem fnok43 : fnOk PE.P 43 = true := by kernel_rfl
theorem fnok40 : fnOk PE.P 40 = true := by kernel_rfl
theorem fnok26 : fnOk PE.P 26 = true := by kernel_rfl
theorem fnok48 : fnOk PE.P 48 = true := by kernel_rfl
theorem fnok25 : fnOk PE.P 25 = true := by kernel_rfl
theorem fnok27 : fnOk PE.P 27 = true := by kernel_rfl
theorem fnok7 : fnOk PE.P 7 = true := by kernel_rfl
theorem fnok8 : fnOk PE.P 8 = true := by kernel_rfl
theorem T9_z (args : List (A PU)) (objs : List (AObj PU)) (K : A PU → List (AObj PU) → Prop) : ¬ T9 0 args objs K := by
  intro h; unfold T9 at h; split at h <;> (first | exact h | exact h.out)
theorem T9_ok (k : Nat) (args : List (A PU)) (objs : List (AObj PU)) (K : A PU → List (AObj PU) → Prop) (h : T9 (k + 1) args objs K) : RowOk PE (PT k) (PC k) 9 args objs K := by
  unfold T9 at h; split at h
  · exact .fn fnok9 rfl (Hold.mp (by kernel_rfl) h.out)
  · exact h.elim
theorem T28_z (args : List (A PU)) (objs : List (AObj PU)) (K : A PU → List (AObj PU) → Prop) : ¬ T28 0 args objs K := by
  intro h; unfold T28 at h; split at h <;> (first | exact h | exact h.out)
theorem T28_ok (k : Nat) (args : List (A PU)) (objs : List (AObj PU)) (K : A PU → List (AObj PU) → Prop) (h : T28 (k + 1) args objs K) : RowOk PE (PT k) (PC k) 28 args objs K := by
  unfold T28 at h; split at h
  · exact .fn fnok28 rfl (Hold.mp (by kernel_rfl) h.out)
  · exact h.elim
theorem T10_z (args : List (A PU)) (objs : List (AObj PU)) (K : A PU → List (AObj PU) → Prop) : ¬ T10 0 args objs K := by
  intro h; unfold T10 at h; split at h <;> (first | exact h | exact h.out)
theorem T10_ok (k : Nat) (args : List (A PU)) (objs : List (AObj PU)) (K : A PU → List (AObj PU) → Prop) (h : T10 (k + 1) args objs K) : RowOk PE (PT k) (PC k) 10 args objs K := by
  unfold T10 at h; split at h
  · exact .fn fnok10 rfl (Hold.mp (by kernel_rfl) h.out)
  · exact h.elim
theorem T29_z (args : List (A PU)) (objs : List (AObj PU)) (K : A PU → List (AObj PU) → Prop) : ¬ T29 0 args objs K := by
  intro h; unfold T29 at h; split at h <;> (first | exact h | exact h.out)
theorem T29_ok (k : Nat) (args : List (A PU)) (objs : List (AObj PU)) (K : A PU → List (AObj PU) → Prop) (h : T29 (k + 1) args objs K) : RowOk PE (PT k) (PC k) 29 args objs K := by
  unfold T29 at h; split at h
  · exact .fn fnok29 rfl (Hold.mp (by kernel_rfl) h.out)
  · exact .fn fnok29 rfl (Hold.mp (by kernel_rfl) h.out)
  · exact h.elim
theorem T30_z (args : List (A PU)) (objs : List (AObj PU)) (K : A PU → List (AObj PU) → Prop) : ¬ T30 0 args objs K := by
  intro h; unfold T30 at h; split at h <;> (first | exact h | exact h.out)
theorem T30_ok (k : Nat) (args : List (A PU)) (objs : List (AObj PU)) (K : A PU → List (AObj PU) → Prop) (h : T30 (k + 1) args objs K) : RowOk PE (PT k) (PC k) 30 args objs K := by
  unfold T30 at h; split at h
  · exact .fn fnok30 rfl (Hold.mp (by kernel_rfl) h.out)
  · exact h.elim
theorem T36_z (args : List (A PU)) (objs : List (AObj PU)) (K : A PU → List (AObj PU) → Prop) : ¬ T36 0 args objs K := by
  intro h; unfold T36 at h; split at h <;> (first | exact h | exact h.out)
theorem T36_ok (k : Nat) (args : List (A PU)) (objs : List (AObj PU)) (K : A PU → List (AObj PU) → Prop) (h : T36 (k + 1) args objs K) : RowOk PE (PT k) (PC k) 36 args objs K := by
  unfold T36 at h; split at h
  · exact .fn fnok36 rfl (Hold.mp (by kernel_rfl) h.out)
  · exact .fn fnok36 rfl (Hold.mp (by kernel_rfl) h.out)
  · exact h.elim
theorem T15_z (args : List (A PU)) (objs : List (AObj PU)) (K : A PU → List (AObj PU) → Prop) : ¬ T15 0 args objs K := by
  intro h; unfold T15 at h; split at h <;> (first | exact h | exact h.out)
theorem T15_ok (k : Nat) (args : List (A PU)) (objs : List (AObj PU)) (K : A PU → List (AObj PU) → Prop) (h : T15 (k + 1) args objs K) : RowOk PE (PT k) (PC k) 15 args objs K := by
  unfold T15 at h; split at h
  · exact .fn fnok15 rfl (Hold.mp (by kernel_rfl) h.out)
  · exact .fn fnok15 rfl (Hold.mp (by kernel_rfl) h.out)
  · exact h.elim
theorem T11_z (args : List (A PU)) (objs : List (AObj PU)) (K : A PU → List (AObj PU) → Prop) : ¬ T11 0 args objs K := by
  intro h; unfold T11 at h; split at h <;> (first | exact h | exact h.out)
theorem T11_ok (k : Nat) (args : List (A PU)) (objs : List (AObj PU)) (K : A PU → List (AObj PU) → Prop) (h : T11 (k + 1) args objs K) : RowOk PE (PT k) (PC k) 11 args objs K := by
  unfold T11 at h; split at h
  · exact .fn fnok11 rfl (Hold.mp (by kernel_rfl) h.out)
  · exact .fn fnok11 rfl (Hold.mp (by kernel_rfl) h.out)
  · exact h.elim
theorem T31_z (args : List (A PU)) (objs : List (AObj PU)) (K : A PU → List (AObj PU) → Prop) : ¬ T31 0 args objs K := by
  intro h; unfold T31 at h; split at h <;> (first | exact h | exact h.out)
theorem T31_ok (k : Nat) (args : List (A PU)) (objs : List (AObj PU)) (K : A PU → List (AObj PU) → Prop) (h : T31 (k + 1) args objs K) : RowOk PE (PT k) (PC k) 31 args objs K := by
  unfold T31 at h; split at h
  · exact .fn fnok31 rfl (Hold.mp (by kernel_rfl) h.out)
  · exact .fn fnok31 rfl (Hold.mp (by kernel_rfl) h.out)
  · exact h.elim
theorem T32_z (args : List (A PU)) (objs : List (AObj PU)) (K : A PU → List (AObj PU) → Prop) : ¬ T32 0 args objs K := by
  intro h; unfold T32 at h; split at h <;> (first | exact h | exact h.out)
theorem T32_ok (k : Nat) (args : List (A PU)) (objs : List (AObj PU)) (K : A PU → List (AObj PU) → Prop) (h : T32 (k + 1) args objs K) : RowOk PE (PT k) (PC k) 32 args objs K := by
  unfold T32 at h; split at h
  · exact .fn fnok32 rfl (Hold.mp (by kernel_rfl) h.out)
  · exact h.elim
theorem T37_z (args : List (A PU)) (objs : List (AObj PU)) (K : A PU → List (AObj PU) → Prop) : ¬ T37 0 args objs K := by
  intro h; unfold T37 at h; split at h <;> (first | exact h | exact h.out)
theorem T37_ok (k : Nat) (args : List (A PU)) (objs : List (AObj PU)) (K : A PU → List (AObj PU) → Prop) (h : T37 (k + 1) args objs K) : RowOk PE (PT k) (PC k) 37 args objs K := by
  unfold T37 at h; split at h
  · exact .fn fnok37 rfl (Hold.mp (by kernel_rfl) h.out)
  · exact .fn fnok37 rfl (Hold.mp (by kernel_rfl) h.out)
  · exact h.elim
theorem T19_z (args : List (A PU)) (objs : List (AObj PU)) (K : A PU → List (AObj PU) → Prop) : ¬ T19 0 args objs K := by
  intro h; unfold T19 at h; split at h <;> (first | exact h | exact h.out)
theorem T19_ok (k : Nat) (args : List (A PU)) (objs : List (AObj PU)) (K : A PU → List (AObj PU) → Prop) (h : T19 (k + 1) args objs K) : RowOk PE (PT k) (PC k) 19 args objs K := by
  unfold T19 at h; split at h
  · exact .fn fnok19 rfl (Hold.mp (by kernel_rfl) h.out)
  · exact .fn fnok19 rfl (Hold.mp (by kernel_rfl) h.out)
  · exact h.elim
theorem T33_z (args : List (A PU)) (objs : List (AObj PU)) (K : A PU → List (AObj PU) → Prop) : ¬ T33 0 args objs K := by
  intro h; unfold T33 at h; split at h <;> (first | exact h | exact h.out)
theorem T33_ok (k : Nat) (args : List (A PU)) (objs : List (AObj PU)) (K : A PU → List (AObj PU) → Prop) (h : T33 (k + 1) args objs K) : RowOk PE (PT k) (PC k) 33 args objs K := by
  unfold T33 at h; split at h
  · exact .fn fnok33 rfl (Hold.mp (by kernel_rfl) h.out)
  · exact h.elim
theorem T12_z (args : List (A PU)) (objs : List (AObj PU)) (K : A PU → List (AObj PU) → Prop) : ¬ T12 0 args objs K := by
  intro h; unfold T12 at h; split at h <;> (first | exact h | exact h.out)
theorem T12_ok (k : Nat) (args : List (A PU)) (objs : List (AObj PU)) (K : A PU → List (AObj PU) → Prop) (h : T12 (k + 1) args objs K) : RowOk PE (PT k) (PC k) 12 args objs K := by
  unfold T12 at h; split at h
  · exact .fn fnok12 rfl (Hold.mp (by kernel_rfl) h.out)
  · exact h.elim
theorem T34_z (args : List (A PU)) (objs : List (AObj PU)) (K : A PU → List (AObj PU) → Prop) : ¬ T34 0 args objs K := by
  intro h; unfold T34 at h; split at h <;> (first | exact h | exact h.out)
theorem T34_ok (k : Nat) (args : List (A PU)) (objs : List (AObj PU)) (K : A PU → List (AObj PU) → Prop) (h : T34 (k + 1) args objs K) : RowOk PE (PT k) (PC k) 34 args objs K := by
  unfold T34 at h; split at h
  · exact .fn fnok34 rfl (Hold.mp (by kernel_rfl) h.out)
  · exact .fn fnok34 rfl (Hold.mp (by kernel_rfl) h.out)
  · exact .fn fnok34 rfl (Hold.mp (by kernel_rfl) h.out)
  · exact h.elim
theorem T13_z (args : List (A PU)) (objs : List (AObj PU)) (K : A PU → List (AObj PU) → Prop) : ¬ T13 0 args objs K := by
  intro h; unfold T13 at h; split at h <;> (first | exact h | exact h.out)
theorem T13_ok (k : Nat) (args : List (A PU)) (objs : List (AObj PU)) (K : A PU → List (AObj PU) → Prop) (h : T13 (k + 1) args objs K) : RowOk PE (PT k) (PC k) 13 args objs K := by
  unfold T13 at h; split at h
  · exact .fn fnok13 rfl (Hold.mp (by kernel_rfl) h.out)
  · exact .fn fnok13 rfl (Hold.mp (by kernel_rfl) h.out)
  · exact .fn fnok13 rfl (Hold.mp (by kernel_rfl) h.out)
  · exact h.elim
theorem T35_z (args : List (A PU)) (objs : List (AObj PU)) (K : A PU → List (AObj PU) → Prop) : ¬ T35 0 args objs K := by
  intro h; unfold T35 at h; split at h <;> (first | exact h | exact h.out)
theorem T35_ok (k : Nat) (args : List (A PU)) (objs : List (AObj PU)) (K : A PU → List (AObj PU) → Prop) (h : T35 (k + 1) args objs K) : RowOk PE (PT k) (PC k) 35 args objs K := by
  unfold T35 at h; split at h
  · exact .fn fnok35 rfl (Hold.mp (by kernel_rfl) h.out)
  · exact h.elim
theorem T14_z (args : List (A PU)) (objs : List (AObj PU)) (K : A PU → List (AObj PU) → Prop) : ¬ T14 0 args objs K := by
  intro h; unfold T14 at h; split at h <;> (first | exact h | exact h.out)
theorem T14_ok (k : Nat) (args : List (A PU)) (objs : List (AObj PU)) (K : A PU → List (AObj PU) → Prop) (h : T14 (k + 1) args objs K) : RowOk PE (PT k) (PC k) 14 args objs K := by
  unfold T14 at h; split at h
  · exact .fn fnok14 rfl (Hold.mp (by kernel_rfl) h.out)
  · exact h.elim
theorem T3_z (args : List (A PU)) (objs : List (AObj PU)) (K : A PU → List (AObj PU) → Prop) : ¬ T3 0 args objs K := by
  intro h; unfold T3 at h; split at h <;> (first | exact h | exact h.out)
theorem T3_ok (k : Nat) (args : List (A PU)) (objs : List (AObj PU)) (K : A PU → List (AObj PU) → Prop) (h : T3 (k + 1) args objs K) : RowOk PE (PT k) (PC k) 3 args objs K := by
  unfold T3 at h; split at h
  · exact .fn fnok3 rfl (Hold.mp (by kernel_rfl) h.out)
  · exact h.elim
theorem T16_z (args : List (A PU)) (objs : List (AObj PU)) (K : A PU → List (AObj PU) → Prop) : ¬ T16 0 args objs K := by
  intro h; unfold T16 at h; split at h <;> (first | exact h | exact h.out)
theorem T16_ok (k : Nat) (args : List (A PU)) (objs : List (AObj PU)) (K : A PU → List (AObj PU) → Prop) (h : T16 (k + 1) args objs K) : RowOk PE (PT k) (PC k) 16 args objs K := by
  unfold T16 at h; split at h
  · exact .fn fnok16 rfl (Hold.mp (by kernel_rfl) h.out)
  · exact .fn fnok16 rfl (Hold.mp (by kernel_rfl) h.out)
  · exact h.elim
theorem T18_z (args : List (A PU)) (objs : List (AObj PU)) (K : A PU → List (AObj PU) → Prop) : ¬ T18 0 args objs K := by
  intro h; unfold T18 at h; split at h <;> (first | exact h | exact h.out)
theorem T18_ok (k : Nat) (args : List (A PU)) (objs : List (AObj PU)) (K : A PU → List (AObj PU) → Prop) (h : T18 (k + 1) args objs K) : RowOk PE (PT k) (PC k) 18 args objs K := by
  unfold T18 at h; split at h
  · exact .fn fnok18 rfl (Hold.mp (by kernel_rfl) h.out)
  · exact h.elim
theorem T17_z (args : List (A PU)) (objs : List (AObj PU)) (K : A PU → List (AObj PU) → Prop) : ¬ T17 0 args objs K := by
  intro h; unfold T17 at h; split at h <;> (first | exact h | exact h.out)
theorem T17_ok (k : Nat) (args : List (A PU)) (objs : List (AObj PU)) (K : A PU → List (AObj PU) → Prop) (h : T17 (k + 1) args objs K) : RowOk PE (PT k) (PC k) 17 args objs K := by
  unfold T17 at h; split at h
  · exact .fn fnok17 rfl (Hold.mp (by kernel_rfl) h.out)
  · exact h.elim
theorem T44_z (args : List (A PU)) (objs : List (AObj PU)) (K : A PU → List (AObj PU) → Prop) : ¬ T44 0 args objs K := by
  intro h; unfold T44 at h; split at h <;> (first | exact h | exact h.out)
theorem T44_ok (k : Nat) (args : List (A PU)) (objs : List (AObj PU)) (K : A PU → List (AObj PU) → Prop) (h : T44 (k + 1) args objs K) : RowOk PE (PT k) (PC k) 44 args objs K := by
  unfold T44 at h; split at h
  · exact .fn fnok44 rfl (Hold.mp (by kernel_rfl) h.out)
  · exact h.elim
theorem T38_z (args : List (A PU)) (objs : List (AObj PU)) (K : A PU → List (AObj PU) → Prop) : ¬ T38 0 args objs K := by
  intro h; unfold T38 at h; split at h <;> (first | exact h | exact h.out)
theorem T38_ok (k : Nat) (args : List (A PU)) (objs : List (AObj PU)) (K : A PU → List (AObj PU) → Prop) (h : T38 (k + 1) args objs K) : RowOk PE (PT k) (PC k) 38 args objs K := by
  unfold T38 at h; split at h
  · exact .fn fnok38 rfl (Hold.mp (by kernel_rfl) h.out)
  · exact h.elim
theorem T21_z (args : List (A PU)) (objs : List (AObj PU)) (K : A PU → List (AObj PU) → Prop) : ¬ T21 0 args objs K := by
  intro h; unfold T21 at h; split at h <;> (first | exact h | exact h.out)
theorem T21_ok (k : Nat) (args : List (A PU)) (objs : List (AObj PU)) (K : A PU → List (AObj PU) → Prop) (h : T21 (k + 1) args objs K) : RowOk PE (PT k) (PC k) 21 args objs K := by
  unfold T21 at h; split at h
  · exact .fn fnok21 rfl (Hold.mp (by kernel_rfl) h.out)
  · exact .fn fnok21 rfl (Hold.mp (by kernel_rfl) h.out)
  · exact .fn fnok21 rfl (Hold.mp (by kernel_rfl) h.out)
  · exact .fn fnok21 rfl (Hold.mp (by kernel_rfl) h.out)
  · exact h.elim
theorem T45_z (args : List (A PU)) (objs : List (AObj PU)) (K : A PU → List (AObj PU) → Prop) : ¬ T45 0 args objs K := by
  intro h; unfold T45 at h; split at h <;> (first | exact h | exact h.out)
theorem T45_ok (k : Nat) (args : List (A PU)) (objs : List (AObj PU)) (K : A PU → List (AObj PU) → Prop) (h : T45 (k + 1) args objs K) : RowOk PE (PT k) (PC k) 45 args objs K := by
  unfold T45 at h; split at h
  · exact .fn fnok45 rfl (Hold.mp (by kernel_rfl) h.out)
  · exact .fn fnok45 rfl (Hold.mp (by kernel_rfl) h.out)
  · exact h.elim
theorem T39_z (args : List (A PU)) (objs : List (AObj PU)) (K : A PU → List (AObj PU) → Prop) : ¬ T39 0 args objs K := by
  intro h; unfold T39 at h; split at h <;> (first | exact h | exact h.out)
theorem T39_ok (k : Nat) (args : List (A PU)) (objs : List (AObj PU)) (K : A PU → List (AObj PU) → Prop) (h : T39 (k + 1) args objs K) : RowOk PE (PT k) (PC k) 39 args objs K := by
  unfold T39 at h; split at h
  · exact .fn fnok39 rfl (Hold.mp (by kernel_rfl) h.out)
  · exact .fn fnok39 rfl (Hold.mp (by kernel_rfl) h.out)
  · exact h.elim
theorem T23_z (args : List (A PU)) (objs : List (AObj PU)) (K : A PU → List (AObj PU) → Prop) : ¬ T23 0 args objs K := by
  intro h; unfold T23 at h; split at h <;> (first | exact h | exact h.out)
theorem T23_ok (k : Nat) (args : List (A PU)) (objs : List (AObj PU)) (K : A PU → List (AObj PU) → Prop) (h : T23 (k + 1) args objs K) : RowOk PE (PT k) (PC k) 23 args objs K := by
  unfold T23 at h; split at h
  · exact .fn fnok23 rfl (Hold.mp (by kernel_rfl) h.out)
  · exact .fn fnok23 rfl (Hold.mp (by kernel_rfl) h.out)
  · exact h.elim
theorem T20_z (args : List (A PU)) (objs : List (AObj PU)) (K : A PU → List (AObj PU) → Prop) : ¬ T20 0 args objs K := by
  intro h; unfold T20 at h; split at h <;> (first | exact h | exact h.out)
theorem T20_ok (k : Nat) (args : List (A PU)) (objs : List (AObj PU)) (K : A PU → List (AObj PU) → Prop) (h : T20 (k + 1) args objs K) : RowOk PE (PT k) (PC k) 20 args objs K := by
  unfold T20 at h; split at h
  · exact .fn fnok20 rfl (Hold.mp (by kernel_rfl) h.out)
  · exact h.elim
theorem T22_z (args : List (A PU)) (objs : List (AObj PU)) (K : A PU → List (AObj PU) → Prop) : ¬ T22 0 args objs K := by
  intro h; unfold T22 at h; split at h <;> (first | exact h | exact h.out)
theorem T22_ok (k : Nat) (args : List (A PU)) (objs : List (AObj PU)) (K : A PU → List (AObj PU) → Prop) (h : T22 (k + 1) args objs K) : RowOk PE (PT k) (PC k) 22 args objs K := by
  unfold T22 at h; split at h
  · exact .fn fnok22 rfl (Hold.mp (by kernel_rfl) h.out)
  · exact .fn fnok22 rfl (Hold.mp (by kernel_rfl) h.out)
  · exact h.elim
theorem T24_z (args : List (A PU)) (objs : List (AObj PU)) (K : A PU → List (AObj PU) → Prop) : ¬ T24 0 args objs K := by
  intro h; unfold T24 at h; split at h <;> (first | exact h | exact h.out)
theorem T24_ok (k : Nat) (args : List (A PU)) (objs : List (AObj PU)) (K : A PU → List (AObj PU) → Prop) (h : T24 (k + 1) args objs K) : RowOk PE (PT k) (PC k) 24 args objs K := by
  unfold T24 at h; split at h
  · exact .fn fnok24 rfl (Hold.mp (by kernel_rfl) h.out)
  · exact h.elim
theorem T4_z (args : List (A PU)) (objs : List (AObj PU)) (K : A PU → List (AObj PU) → Prop) : ¬ T4 0 args objs K := by
  intro h; unfold T4 at h; split at h <;> (first | exact h | exact h.out)
theorem T4_ok (k : Nat) (args : List (A PU)) (objs : List (AObj PU)) (K : A PU → List (AObj PU) → Prop) (h : T4 (k + 1) args objs K) : RowOk PE (PT k) (PC k) 4 args objs K := by
  unfold T4 at h; split at h
  · exact .fn fnok4 rfl (Hold.mp (by kernel_rfl) h.out)
  · exact h.elim
theorem T5_z (args : List (A PU)) (objs : List (AObj PU)) (K : A PU → List (AObj PU) → Prop) : ¬ T5 0 args objs K := by
  intro h; unfold T5 at h; split at h <;> (first | exact h | exact h.out)
theorem T5_ok (k : Nat) (args : List (A PU)) (objs : List (AObj PU)) (K : A PU → List (AObj PU) → Prop) (h : T5 (k + 1) args objs K) : RowOk PE (PT k) (PC k) 5 args objs K := by
  unfold T5 at h; split at h
  · exact .fn fnok5 rfl (Hold.mp (by kernel_rfl) h.out)
  · exact h.elim
theorem T6_z (args : List (A PU)) (objs : List (AObj PU)) (K : A PU → List (AObj PU) → Prop) : ¬ T6 0 args objs K := by
  intro h; unfold T6 at h; split at h <;> (first | exact h | exact h.out)
theorem T6_ok (k : Nat) (args : List (A PU)) (objs : List (AObj PU)) (K : A PU → List (AObj PU) → Prop) (h : T6 (k + 1) args objs K) : RowOk PE (PT k) (PC k) 6 args objs K := by
  unfold T6 at h; split at h
  · exact .fn fnok6 rfl (Hold.mp (by kernel_rfl) h.out)
  · exact h.elim
theorem T41_z (args : List (A PU)) (objs : List (AObj PU)) (K : A PU → List (AObj PU) → Prop) : ¬ T41 0 args objs K := by
  intro h; unfold T41 at h; split at h <;> (first | exact h | exact h.out)
theorem T41_ok (k : Nat) (args : List (A PU)) (objs : List (AObj PU)) (K : A PU → List (AObj PU) → Prop) (h : T41 (k + 1) args objs K) : RowOk PE (PT k) (PC k) 41 args objs K := by
  unfold T41 at h; split at h
  · exact .fn fnok41 rfl (Hold.mp (by kernel_rfl) h.out)
  · exact .fn fnok41 rfl (Hold.mp (by kernel_rfl) h.out)
  · exact h.elim
theorem T42_z (args : List (A PU)) (objs : List (AObj PU)) (K : A PU → List (AObj PU) → Prop) : ¬ T42 0 args objs K := by
  intro h; unfold T42 at h; split at h <;> (first | exact h | exact h.out)
theorem T42_ok (k : Nat) (args : List (A PU)) (objs : List (AObj PU)) (K : A PU → List (AObj PU) → Prop) (h : T42 (k + 1) args objs K) : RowOk PE (PT k) (PC k) 42 args objs K := by
  unfold T42 at h; split at h
  · exact .row (hand42 _ _ (Hold.mp (by kernel_rfl) h.out).out)
  · exact h.elim
theorem T43_z (args : List (A PU)) (objs : List (AObj PU)) (K : A PU → List (AObj PU) → Prop) : ¬ T43 0 args objs K := by
  intro h; unfold T43 at h; split at h <;> (first | exact h | exact h.out)
theorem T43_ok (k : Nat) (args : List (A PU)) (objs : List (AObj PU)) (K : A PU → List (AObj PU) → Prop) (h : T43 (k + 1) args objs K) : RowOk PE (PT k) (PC k) 43 args objs K := by
  unfold T43 at h; split at h
  · exact .fn fnok43 rfl (Hold.mp (by kernel_rfl) h.out)
  · exact h.elim
theorem T40_z (args : List (A PU)) (objs : List (AObj PU)) (K : A PU → List (AObj PU) → Prop) : ¬ T40 0 args objs K := by
  intro h; unfold T40 at h; split at h <;> (first | exact h | exact h.out)
theorem T40_ok (k : Nat) (args : List (A PU)) (objs : List (AObj PU)) (K : A PU → List (AObj PU) → Prop) (h : T40 (k + 1) args objs K) : RowOk PE (PT k) (PC k) 40 args objs K := by
  unfold T40 at h; split at h
  · exact .fn fnok40 rfl (Hold.mp (by kernel_rfl) h.out)
  · exact .fn fnok40 rfl (Hold.mp (by kernel_rfl) h.out)
  · exact h.elim
theorem T26y7_z (args : List (A PU)) (objs : List (AObj PU)) (K : A PU → List (AObj PU) → Prop) : ¬ T26y7 0 args objs K := by
  intro h; unfold T26y7 at h; split at h <;> (first | exact h | exact h.out)
theorem T26y7_ok (k : Nat) (args : List (A PU)) (objs : List (AObj PU)) (K : A PU → List (AObj PU) → Prop) (h : T26y7 (k + 1) args objs K) : RowOk PE (PT k) (PC k) 27000007 args objs K := by
  unfold T26y7 at h; split at h
  · exact .round 26 7 rfl fnok26 rfl (Hold.mp (by kernel_rfl) h.out)
  · exact .round 26 7 rfl fnok26 rfl (Hold.mp (by kernel_rfl) h.out)
  · exact h.elim
theorem T48_z (args : List (A PU)) (objs : List (AObj PU)) (K : A PU → List (AObj PU) → Prop) : ¬ T48 0 args objs K := by
  intro h; unfold T48 at h; split at h <;> (first | exact h | exact h.out)
theorem T48_ok (k : Nat) (args : List (A PU)) (objs : List (AObj PU)) (K : A PU → List (AObj PU) → Prop) (h : T48 (k + 1) args objs K) : RowOk PE (PT k) (PC k) 48 args objs K := by
  unfold T48 at h; split at h
  · exact .fn fnok48 rfl (Hold.mp (by kernel_rfl) h.out)
  · exact .fn fnok48 rfl (Hold.mp (by kernel_rfl) h.out)
  · exact h.elim
theorem T26_z (args : List (A PU)) (objs : List (AObj PU)) (K : A PU → List (AObj PU) → Prop) : ¬ T26 0 args objs K := by
  intro h; unfold T26 at h; split at h <;> (first | exact h | exact h.out)
theorem T26_ok (k : Nat) (args : List (A PU)) (objs : List (AObj PU)) (K : A PU → List (AObj PU) → Prop) (h : T26 (k + 1) args objs K) : RowOk PE (PT k) (PC k) 26 args objs K := by
  unfold T26 at h; split at h
  · exact .fn fnok26 rfl (Hold.mp (by kernel_rfl) h.out)
  · exact .fn fnok26 rfl (Hold.mp (by kernel_rfl) h.out)
  · exact h.elim
theorem T25_z (args : List (A PU)) (objs : List (AObj PU)) (K : A PU → List (AObj PU) → Prop) : ¬ T25 0 args objs K := by
  intro h; unfold T25 at h; split at h <;> (first | exact h | exact h.out)
theorem T25_ok (k : Nat) (args : List (A PU)) (objs : List (AObj PU)) (K : A PU → List (AObj PU) → Prop) (h : T25 (k + 1) args objs K) : RowOk PE (PT k) (PC k) 25 args objs K := by
  unfold T25 at h; split at h
  · exact .fn fnok25 rfl (Hold.mp (by kernel_rfl) h.out)
  · exact h.elim
theorem T27_z (args : List (A PU)) (objs : List (AObj PU)) (K : A PU → List (AObj PU) → Prop) : ¬ T27 0 args objs K := by
  intro h; unfold T27 at h; split at h <;> (first | exact h | exact h.out)
theorem T27_ok (k : Nat) (args : List (A PU)) (objs : List (AObj PU)) (K : A PU → List (AObj PU) → Prop) (h : T27 (k + 1) args objs K) : RowOk PE (PT k) (PC k) 27 args objs K := by
  unfold T27 at h; split at h
  · exact .fn fnok27 rfl (Hold.mp (by kernel_rfl) h.out)
  · exact h.elim
theorem T7_z (args : List (A PU)) (objs : List (AObj PU)) (K : A PU → List (AObj PU) → Prop) : ¬ T7 0 args objs K := by
  intro h; unfold T7 at h; split at h <;> (first | exact h | exact h.out)
theorem T7_ok (k : Nat) (args : List (A PU)) (objs : List (AObj PU)) (K : A PU → List (AObj PU) → Prop) (h : T7 (k + 1) args objs K) : RowOk PE (PT k) (PC k) 7 args objs K := by
  unfold T7 at h; split at h
  · exact .fn fnok7 rfl (Hold.mp (by kernel_rfl) h.out)
  · exact h.elim
theorem T8_z (args : List (A PU)) (objs : List (AObj PU)) (K : A PU → List (AObj PU) → Prop) : ¬ T8 0 args objs K := by
  intro h; unfold T8 at h; split at h <;> (first | exact h | exact h.out)
theorem T8_ok (k : Nat) (args : List (A PU)) (objs : List (AObj PU)) (K : A PU → List (AObj PU) → Prop) (h : T8 (k + 1) args objs K) : RowOk PE (PT k) (PC k) 8 args objs K := by
  unfold T8 at h; split at h
  · exact .fn fnok8 rfl (Hold.mp (by kernel_rfl) h.out)
  · exact h.elim
theorem D29_3_z (nb : Nat) (vals : List (A PU)) (objs : List (AObj PU)) (K : A PU → List (AObj PU) → Prop) : ¬ D29_3 0 nb vals objs K := by
  intro h; unfold D29_3 at h; split at h <;> (first | exact h | exact h.out)
theorem D29_3_ok (k : Nat) (live : List Nat) (hl : cutOf 29 3 PE.cuts = some live) (nb : Nat) (vals : List (A PU)) (objs : List (AObj PU)) (K : A PU → List (AObj PU) → Prop) (h : D29_3 (k + 1) nb vals objs K) : fnOk PE.P 29 = true ∧ Hold (vcut PE (PT k) (PC k) 29 3 live nb vals objs K) := by
  obtain rfl : live = [3, 6, 7, 8] := Option.some.inj (hl.symm.trans (by kernel_rfl : cutOf 29 3 PE.cuts = some [3, 6, 7, 8]))
  refine ⟨fnok29, ?_⟩; unfold D29_3 at h; split at h
  · exact Hold.mp (by kernel_rfl) h.out
  · exact Hold.mp (by kernel_rfl) h.out
  · exact h.elim
theorem D29_7_z (nb : Nat) (vals : List (A PU)) (objs : List (AObj PU)) (K : A PU → List (AObj PU) → Prop) : ¬ D29_7 0 nb vals objs K := by
  intro h; unfold D29_7 at h; split at h <;> (first | exact h | exact h.out)
theorem D29_7_ok (k : Nat) (live : List Nat) (hl : cutOf 29 7 PE.cuts = some live) (nb : Nat) (vals : List (A PU)) (objs : List (AObj PU)) (K : A PU → List (AObj PU) → Prop) (h : D29_7 (k + 1) nb vals objs K) : fnOk PE.P 29 = true ∧ Hold (vcut PE (PT k) (PC k) 29 7 live nb vals objs K) := by
  obtain rfl : live = [3, 6, 7, 8] := Option.some.inj (hl.symm.trans (by kernel_rfl : cutOf 29 7 PE.cuts = some [3, 6, 7, 8]))
  refine ⟨fnok29, ?_⟩; unfold D29_7 at h; split at h
  · exact Hold.mp (by kernel_rfl) h.out
  · exact Hold.mp (by kernel_rfl) h.out
  · exact h.elim
theorem D30_3_z (nb : Nat) (vals : List (A PU)) (objs : List (AObj PU)) (K : A PU → List (AObj PU) → Prop) : ¬ D30_3 0 nb vals objs K := by
  intro h; unfold D30_3 at h; split at h <;> (first | exact h | exact h.out)
theorem D30_3_ok (k : Nat) (live : List Nat) (hl : cutOf 30 3 PE.cuts = some live) (nb : Nat) (vals : List (A PU)) (objs : List (AObj PU)) (K : A PU → List (AObj PU) → Prop) (h : D30_3 (k + 1) nb vals objs K) : fnOk PE.P 30 = true ∧ Hold (vcut PE (PT k) (PC k) 30 3 live nb vals objs K) := by
  obtain rfl : live = [0, 3, 5] := Option.some.inj (hl.symm.trans (by kernel_rfl : cutOf 30 3 PE.cuts = some [0, 3, 5]))
  refine ⟨fnok30, ?_⟩; unfold D30_3 at h; split at h
  · exact Hold.mp (by kernel_rfl) h.out
  · exact h.elim
theorem D36_4_z (nb : Nat) (vals : List (A PU)) (objs : List (AObj PU)) (K : A PU → List (AObj PU) → Prop) : ¬ D36_4 0 nb vals objs K := by
  intro h; unfold D36_4 at h; split at h <;> (first | exact h | exact h.out)
theorem D36_4_ok (k : Nat) (live : List Nat) (hl : cutOf 36 4 PE.cuts = some live) (nb : Nat) (vals : List (A PU)) (objs : List (AObj PU)) (K : A PU → List (AObj PU) → Prop) (h : D36_4 (k + 1) nb vals objs K) : fnOk PE.P 36 = true ∧ Hold (vcut PE (PT k) (PC k) 36 4 live nb vals objs K) := by
  obtain rfl : live = [0, 1, 12, 13] := Option.some.inj (hl.symm.trans (by kernel_rfl : cutOf 36 4 PE.cuts = some [0, 1, 12, 13]))
  refine ⟨fnok36, ?_⟩; unfold D36_4 at h; split at h
  · exact Hold.mp (by kernel_rfl) h.out
  · exact Hold.mp (by kernel_rfl) h.out
  · exact h.elim
theorem D11_5_z (nb : Nat) (vals : List (A PU)) (objs : List (AObj PU)) (K : A PU → List (AObj PU) → Prop) : ¬ D11_5 0 nb vals objs K := by
  intro h; unfold D11_5 at h; split at h <;> (first | exact h | exact h.out)
theorem D11_5_ok (k : Nat) (live : List Nat) (hl : cutOf 11 5 PE.cuts = some live) (nb : Nat) (vals : List (A PU)) (objs : List (AObj PU)) (K : A PU → List (AObj PU) → Prop) (h : D11_5 (k + 1) nb vals objs K) : fnOk PE.P 11 = true ∧ Hold (vcut PE (PT k) (PC k) 11 5 live nb vals objs K) := by
  obtain rfl : live = [4, 6, 7, 8, 9, 28] := Option.some.inj (hl.symm.trans (by kernel_rfl : cutOf 11 5 PE.cuts = some [4, 6, 7, 8, 9, 28]))
  refine ⟨fnok11, ?_⟩; unfold D11_5 at h; split at h
  · exact Hold.mp (by kernel_rfl) h.out
  · exact h.elim
theorem D11_14_z (nb : Nat) (vals : List (A PU)) (objs : List (AObj PU)) (K : A PU → List (AObj PU) → Prop) : ¬ D11_14 0 nb vals objs K := by
  intro h; unfold D11_14 at h; split at h <;> (first | exact h | exact h.out)
theorem D11_14_ok (k : Nat) (live : List Nat) (hl : cutOf 11 14 PE.cuts = some live) (nb : Nat) (vals : List (A PU)) (objs : List (AObj PU)) (K : A PU → List (AObj PU) → Prop) (h : D11_14 (k + 1) nb vals objs K) : fnOk PE.P 11 = true ∧ Hold (vcut PE (PT k) (PC k) 11 14 live nb vals objs K) := by
  obtain rfl : live = [4, 6, 7, 9] := Option.some.inj (hl.symm.trans (by kernel_rfl : cutOf 11 14 PE.cuts = some [4, 6, 7, 9]))
  refine ⟨fnok11, ?_⟩; unfold D11_14 at h; split at h
  · exact Hold.mp (by kernel_rfl) h.out
  · exact h.elim
theorem D31_2_z (nb : Nat) (vals : List (A PU)) (objs : List (AObj PU)) (K : A PU → List (AObj PU) → Prop) : ¬ D31_2 0 nb vals objs K := by
  intro h; unfold D31_2 at h; split at h <;> (first | exact h | exact h.out)
theorem D31_2_ok (k : Nat) (live : List Nat) (hl : cutOf 31 2 PE.cuts = some live) (nb : Nat) (vals : List (A PU)) (objs : List (AObj PU)) (K : A PU → List (AObj PU) → Prop) (h : D31_2 (k + 1) nb vals objs K) : fnOk PE.P 31 = true ∧ Hold (vcut PE (PT k) (PC k) 31 2 live nb vals objs K) := by
  obtain rfl : live = [0, 1, 5] := Option.some.inj (hl.symm.trans (by kernel_rfl : cutOf 31 2 PE.cuts = some [0, 1, 5]))
  refine ⟨fnok31, ?_⟩; unfold D31_2 at h; split at h
  · exact Hold.mp (by kernel_rfl) h.out
  · exact Hold.mp (by kernel_rfl) h.out
  · exact h.elim
theorem D32_3_z (nb : Nat) (vals : List (A PU)) (objs : List (AObj PU)) (K : A PU → List (AObj PU) → Prop) : ¬ D32_3 0 nb vals objs K := by
  intro h; unfold D32_3 at h; split at h <;> (first | exact h | exact h.out)
theorem D32_3_ok (k : Nat) (live : List Nat) (hl : cutOf 32 3 PE.cuts = some live) (nb : Nat) (vals : List (A PU)) (objs : List (AObj PU)) (K : A PU → List (AObj PU) → Prop) (h : D32_3 (k + 1) nb vals objs K) : fnOk PE.P 32 = true ∧ Hold (vcut PE (PT k) (PC k) 32 3 live nb vals objs K) := by
  obtain rfl : live = [0, 1, 5, 6] := Option.some.inj (hl.symm.trans (by kernel_rfl : cutOf 32 3 PE.cuts = some [0, 1, 5, 6]))
  refine ⟨fnok32, ?_⟩; unfold D32_3 at h; split at h
  · exact Hold.mp (by kernel_rfl) h.out
  · exact h.elim
theorem D37_2_z (nb : Nat) (vals : List (A PU)) (objs : List (AObj PU)) (K : A PU → List (AObj PU) → Prop) : ¬ D37_2 0 nb vals objs K := by
  intro h; unfold D37_2 at h; split at h <;> (first | exact h | exact h.out)
theorem D37_2_ok (k : Nat) (live : List Nat) (hl : cutOf 37 2 PE.cuts = some live) (nb : Nat) (vals : List (A PU)) (objs : List (AObj PU)) (K : A PU → List (AObj PU) → Prop) (h : D37_2 (k + 1) nb vals objs K) : fnOk PE.P 37 = true ∧ Hold (vcut PE (PT k) (PC k) 37 2 live nb vals objs K) := by
  obtain rfl : live = [0, 3] := Option.some.inj (hl.symm.trans (by kernel_rfl : cutOf 37 2 PE.cuts = some [0, 3]))
  refine ⟨fnok37, ?_⟩; unfold D37_2 at h; split at h
  · exact Hold.mp (by kernel_rfl) h.out
  · exact Hold.mp (by kernel_rfl) h.out
  · exact h.elim
theorem D19_4_z (nb : Nat) (vals : List (A PU)) (objs : List (AObj PU)) (K : A PU → List (AObj PU) → Prop) : ¬ D19_4 0 nb vals objs K := by
  intro h; unfold D19_4 at h; split at h <;> (first | exact h | exact h.out)
theorem D19_4_ok (k : Nat) (live : List Nat) (hl : cutOf 19 4 PE.cuts = some live) (nb : Nat) (vals : List (A PU)) (objs : List (AObj PU)) (K : A PU → List (AObj PU) → Prop) (h : D19_4 (k + 1) nb vals objs K) : fnOk PE.P 19 = true ∧ Hold (vcut PE (PT k) (PC k) 19 4 live nb vals objs K) := by
  obtain rfl : live = [1, 3] := Option.some.inj (hl.symm.trans (by kernel_rfl : cutOf 19 4 PE.cuts = some [1, 3]))
  refine ⟨fnok19, ?_⟩; unfold D19_4 at h; split at h
  · exact Hold.mp (by kernel_rfl) h.out
  · exact Hold.mp (by kernel_rfl) h.out
  · exact h.elim
theorem D33_3_z (nb : Nat) (vals : List (A PU)) (objs : List (AObj PU)) (K : A PU → List (AObj PU) → Prop) : ¬ D33_3 0 nb vals objs K := by
  intro h; unfold D33_3 at h; split at h <;> (first | exact h | exact h.out)
theorem D33_3_ok (k : Nat) (live : List Nat) (hl : cutOf 33 3 PE.cuts = some live) (nb : Nat) (vals : List (A PU)) (objs : List (AObj PU)) (K : A PU → List (AObj PU) → Prop) (h : D33_3 (k + 1) nb vals objs K) : fnOk PE.P 33 = true ∧ Hold (vcut PE (PT k) (PC k) 33 3 live nb vals objs K) := by
  obtain rfl : live = [0, 1, 5, 6] := Option.some.inj (hl.symm.trans (by kernel_rfl : cutOf 33 3 PE.cuts = some [0, 1, 5, 6]))
  refine ⟨fnok33, ?_⟩; unfold D33_3 at h; split at h
  · exact Hold.mp (by kernel_rfl) h.out
  · exact h.elim
theorem D12_8_z (nb : Nat) (vals : List (A PU)) (objs : List (AObj PU)) (K : A PU → List (AObj PU) → Prop) : ¬ D12_8 0 nb vals objs K := by
  intro h; unfold D12_8 at h; split at h <;> (first | exact h | exact h.out)
theorem D12_8_ok (k : Nat) (live : List Nat) (hl : cutOf 12 8 PE.cuts = some live) (nb : Nat) (vals : List (A PU)) (objs : List (AObj PU)) (K : A PU → List (AObj PU) → Prop) (h : D12_8 (k + 1) nb vals objs K) : fnOk PE.P 12 = true ∧ Hold (vcut PE (PT k) (PC k) 12 8 live nb vals objs K) := by
  obtain rfl : live = [4, 6, 7, 8, 9, 10, 41] := Option.some.inj (hl.symm.trans (by kernel_rfl : cutOf 12 8 PE.cuts = some [4, 6, 7, 8, 9, 10, 41]))
  refine ⟨fnok12, ?_⟩; unfold D12_8 at h; split at h
  · exact Hold.mp (by kernel_rfl) h.out
  · exact h.elim
theorem D12_16_z (nb : Nat) (vals : List (A PU)) (objs : List (AObj PU)) (K : A PU → List (AObj PU) → Prop) : ¬ D12_16 0 nb vals objs K := by
  intro h; unfold D12_16 at h; split at h <;> (first | exact h | exact h.out)
theorem D12_16_ok (k : Nat) (live : List Nat) (hl : cutOf 12 16 PE.cuts = some live) (nb : Nat) (vals : List (A PU)) (objs : List (AObj PU)) (K : A PU → List (AObj PU) → Prop) (h : D12_16 (k + 1) nb vals objs K) : fnOk PE.P 12 = true ∧ Hold (vcut PE (PT k) (PC k) 12 16 live nb vals objs K) := by
  obtain rfl : live = [4, 9, 10] := Option.some.inj (hl.symm.trans (by kernel_rfl : cutOf 12 16 PE.cuts = some [4, 9, 10]))
  refine ⟨fnok12, ?_⟩; unfold D12_16 at h; split at h
  · exact Hold.mp (by kernel_rfl) h.out
  · exact h.elim
theorem D34_4_z (nb : Nat) (vals : List (A PU)) (objs : List (AObj PU)) (K : A PU → List (AObj PU) → Prop) : ¬ D34_4 0 nb vals objs K := by
  intro h; unfold D34_4 at h; split at h <;> (first | exact h | exact h.out)
theorem D34_4_ok (k : Nat) (live : List Nat) (hl : cutOf 34 4 PE.cuts = some live) (nb : Nat) (vals : List (A PU)) (objs : List (AObj PU)) (K : A PU → List (AObj PU) → Prop) (h : D34_4 (k + 1) nb vals objs K) : fnOk PE.P 34 = true ∧ Hold (vcut PE (PT k) (PC k) 34 4 live nb vals objs K) := by
  obtain rfl : live = [0, 1, 5] := Option.some.inj (hl.symm.trans (by kernel_rfl : cutOf 34 4 PE.cuts = some [0, 1, 5]))
  refine ⟨fnok34, ?_⟩; unfold D34_4 at h; split at h
  · exact Hold.mp (by kernel_rfl) h.out
  · exact Hold.mp (by kernel_rfl) h.out
  · exact Hold.mp (by kernel_rfl) h.out
  · exact h.elim
theorem D3_8_z (nb : Nat) (vals : List (A PU)) (objs : List (AObj PU)) (K : A PU → List (AObj PU) → Prop) : ¬ D3_8 0 nb vals objs K := by
  intro h; unfold D3_8 at h; split at h <;> (first | exact h | exact h.out)
theorem D3_8_ok (k : Nat) (live : List Nat) (hl : cutOf 3 8 PE.cuts = some live) (nb : Nat) (vals : List (A PU)) (objs : List (AObj PU)) (K : A PU → List (AObj PU) → Prop) (h : D3_8 (k + 1) nb vals objs K) : fnOk PE.P 3 = true ∧ Hold (vcut PE (PT k) (PC k) 3 8 live nb vals objs K) := by
  obtain rfl : live = [2, 5, 6, 10, 11] := Option.some.inj (hl.symm.trans (by kernel_rfl : cutOf 3 8 PE.cuts = some [2, 5, 6, 10, 11]))
  refine ⟨fnok3, ?_⟩; unfold D3_8 at h; split at h
  · exact Hold.mp (by kernel_rfl) h.out
  · exact h.elim
theorem D3_12_z (nb : Nat) (vals : List (A PU)) (objs : List (AObj PU)) (K : A PU → List (AObj PU) → Prop) : ¬ D3_12 0 nb vals objs K := by
  intro h; unfold D3_12 at h; split at h <;> (first | exact h | exact h.out)
theorem D3_12_ok (k : Nat) (live : List Nat) (hl : cutOf 3 12 PE.cuts = some live) (nb : Nat) (vals : List (A PU)) (objs : List (AObj PU)) (K : A PU → List (AObj PU) → Prop) (h : D3_12 (k + 1) nb vals objs K) : fnOk PE.P 3 = true ∧ Hold (vcut PE (PT k) (PC k) 3 12 live nb vals objs K) := by
  obtain rfl : live = [2, 5, 6, 10, 12] := Option.some.inj (hl.symm.trans (by kernel_rfl : cutOf 3 12 PE.cuts = some [2, 5, 6, 10, 12]))
  refine ⟨fnok3, ?_⟩; unfold D3_12 at h; split at h
  · exact Hold.mp (by kernel_rfl) h.out
  · exact h.elim
theorem D18_3_z (nb : Nat) (vals : List (A PU)) (objs : List (AObj PU)) (K : A PU → List (AObj PU) → Prop) : ¬ D18_3 0 nb vals objs K := by
  intro h; unfold D18_3 at h; split at h <;> (first | exact h | exact h.out)
theorem D18_3_ok (k : Nat) (live : List Nat) (hl : cutOf 18 3 PE.cuts = some live) (nb : Nat) (vals : List (A PU)) (objs : List (AObj PU)) (K : A PU → List (AObj PU) → Prop) (h : D18_3 (k + 1) nb vals objs K) : fnOk PE.P 18 = true ∧ Hold (vcut PE (PT k) (PC k) 18 3 live nb vals objs K) := by
  obtain rfl : live = [1, 3, 4] := Option.some.inj (hl.symm.trans (by kernel_rfl : cutOf 18 3 PE.cuts = some [1, 3, 4]))
  refine ⟨fnok18, ?_⟩; unfold D18_3 at h; split at h
  · exact Hold.mp (by kernel_rfl) h.out
  · exact h.elim
theorem D17_4_z (nb : Nat) (vals : List (A PU)) (objs : List (AObj PU)) (K : A PU → List (AObj PU) → Prop) : ¬ D17_4 0 nb vals objs K := by
  intro h; unfold D17_4 at h; split at h <;> (first | exact h | exact h.out)
theorem D17_4_ok (k : Nat) (live : List Nat) (hl : cutOf 17 4 PE.cuts = some live) (nb : Nat) (vals : List (A PU)) (objs : List (AObj PU)) (K : A PU → List (AObj PU) → Prop) (h : D17_4 (k + 1) nb vals objs K) : fnOk PE.P 17 = true ∧ Hold (vcut PE (PT k) (PC k) 17 4 live nb vals objs K) := by
  obtain rfl : live = [0, 1, 5] := Option.some.inj (hl.symm.trans (by kernel_rfl : cutOf 17 4 PE.cuts = some [0, 1, 5]))
  refine ⟨fnok17, ?_⟩; unfold D17_4 at h; split at h
  · exact Hold.mp (by kernel_rfl) h.out
  · exact h.elim
theorem D45_2_z (nb : Nat) (vals : List (A PU)) (objs : List (AObj PU)) (K : A PU → List (AObj PU) → Prop) : ¬ D45_2 0 nb vals objs K := by
  intro h; unfold D45_2 at h; split at h <;> (first | exact h | exact h.out)
theorem D45_2_ok (k : Nat) (live : List Nat) (hl : cutOf 45 2 PE.cuts = some live) (nb : Nat) (vals : List (A PU)) (objs : List (AObj PU)) (K : A PU → List (AObj PU) → Prop) (h : D45_2 (k + 1) nb vals objs K) : fnOk PE.P 45 = true ∧ Hold (vcut PE (PT k) (PC k) 45 2 live nb vals objs K) := by
  obtain rfl : live = [0, 1, 7, 8] := Option.some.inj (hl.symm.trans (by kernel_rfl : cutOf 45 2 PE.cuts = some [0, 1, 7, 8]))
  refine ⟨fnok45, ?_⟩; unfold D45_2 at h; split at h
  · exact Hold.mp (by kernel_rfl) h.out
  · exact Hold.mp (by kernel_rfl) h.out
  · exact h.elim
theorem D22_3_z (nb : Nat) (vals : List (A PU)) (objs : List (AObj PU)) (K : A PU → List (AObj PU) → Prop) : ¬ D22_3 0 nb vals objs K := by
  intro h; unfold D22_3 at h; split at h <;> (first | exact h | exact h.out)
theorem D22_3_ok (k : Nat) (live : List Nat) (hl : cutOf 22 3 PE.cuts = some live) (nb : Nat) (vals : List (A PU)) (objs : List (AObj PU)) (K : A PU → List (AObj PU) → Prop) (h : D22_3 (k + 1) nb vals objs K) : fnOk PE.P 22 = true ∧ Hold (vcut PE (PT k) (PC k) 22 3 live nb vals objs K) := by
  obtain rfl : live = [1, 2, 5, 6] := Option.some.inj (hl.symm.trans (by kernel_rfl : cutOf 22 3 PE.cuts = some [1, 2, 5, 6]))
  refine ⟨fnok22, ?_⟩; unfold D22_3 at h; split at h
  · exact Hold.mp (by kernel_rfl) h.out
  · exact Hold.mp (by kernel_rfl) h.out
  · exact h.elim
theorem D4_8_z (nb : Nat) (vals : List (A PU)) (objs : List (AObj PU)) (K : A PU → List (AObj PU) → Prop) : ¬ D4_8 0 nb vals objs K := by
  intro h; unfold D4_8 at h; split at h <;> (first | exact h | exact h.out)
theorem D4_8_ok (k : Nat) (live : List Nat) (hl : cutOf 4 8 PE.cuts = some live) (nb : Nat) (vals : List (A PU)) (objs : List (AObj PU)) (K : A PU → List (AObj PU) → Prop) (h : D4_8 (k + 1) nb vals objs K) : fnOk PE.P 4 = true ∧ Hold (vcut PE (PT k) (PC k) 4 8 live nb vals objs K) := by
  obtain rfl : live = [1, 2, 3, 7, 8, 9, 10, 11] := Option.some.inj (hl.symm.trans (by kernel_rfl : cutOf 4 8 PE.cuts = some [1, 2, 3, 7, 8, 9, 10, 11]))
  refine ⟨fnok4, ?_⟩; unfold D4_8 at h; split at h
  · exact Hold.mp (by kernel_rfl) h.out
  · exact h.elim
theorem D4_12_z (nb : Nat) (vals : List (A PU)) (objs : List (AObj PU)) (K : A PU → List (AObj PU) → Prop) : ¬ D4_12 0 nb vals objs K := by
  intro h; unfold D4_12 at h; split at h <;> (first | exact h | exact h.out)
theorem D4_12_ok (k : Nat) (live : List Nat) (hl : cutOf 4 12 PE.cuts = some live) (nb : Nat) (vals : List (A PU)) (objs : List (AObj PU)) (K : A PU → List (AObj PU) → Prop) (h : D4_12 (k + 1) nb vals objs K) : fnOk PE.P 4 = true ∧ Hold (vcut PE (PT k) (PC k) 4 12 live nb vals objs K) := by
  obtain rfl : live = [1, 2, 3, 7, 10, 12] := Option.some.inj (hl.symm.trans (by kernel_rfl : cutOf 4 12 PE.cuts = some [1, 2, 3, 7, 10, 12]))
  refine ⟨fnok4, ?_⟩; unfold D4_12 at h; split at h
  · exact Hold.mp (by kernel_rfl) h.out
  · exact h.elim
theorem D5_8_z (nb : Nat) (vals : List (A PU)) (objs : List (AObj PU)) (K : A PU → List (AObj PU) → Prop) : ¬ D5_8 0 nb vals objs K := by
  intro h; unfold D5_8 at h; split at h <;> (first | exact h | exact h.out)
theorem D5_8_ok (k : Nat) (live : List Nat) (hl : cutOf 5 8 PE.cuts = some live) (nb : Nat) (vals : List (A PU)) (objs : List (AObj PU)) (K : A PU → List (AObj PU) → Prop) (h : D5_8 (k + 1) nb vals objs K) : fnOk PE.P 5 = true ∧ Hold (vcut PE (PT k) (PC k) 5 8 live nb vals objs K) := by
  obtain rfl : live = [2, 3, 4, 9] := Option.some.inj (hl.symm.trans (by kernel_rfl : cutOf 5 8 PE.cuts = some [2, 3, 4, 9]))
  refine ⟨fnok5, ?_⟩; unfold D5_8 at h; split at h
  · exact Hold.mp (by kernel_rfl) h.out
  · exact Hold.mp (by kernel_rfl) h.out
  · exact h.elim
theorem D5_9_z (nb : Nat) (vals : List (A PU)) (objs : List (AObj PU)) (K : A PU → List (AObj PU) → Prop) : ¬ D5_9 0 nb vals objs K := by
  intro h; unfold D5_9 at h; split at h <;> (first | exact h | exact h.out)
theorem D5_9_ok (k : Nat) (live : List Nat) (hl : cutOf 5 9 PE.cuts = some live) (nb : Nat) (vals : List (A PU)) (objs : List (AObj PU)) (K : A PU → List (AObj PU) → Prop) (h : D5_9 (k + 1) nb vals objs K) : fnOk PE.P 5 = true ∧ Hold (vcut PE (PT k) (PC k) 5 9 live nb vals objs K) := by
  obtain rfl : live = [] := Option.some.inj (hl.symm.trans (by kernel_rfl : cutOf 5 9 PE.cuts = some []))
  refine ⟨fnok5, ?_⟩; unfold D5_9 at h; split at h
  · exact Hold.mp (by kernel_rfl) h.out
  · exact h.elim
theorem D5_11_z (nb : Nat) (vals : List (A PU)) (objs : List (AObj PU)) (K : A PU → List (AObj PU) → Prop) : ¬ D5_11 0 nb vals objs K := by
  intro h; unfold D5_11 at h; split at h <;> (first | exact h | exact h.out)
theorem D5_11_ok (k : Nat) (live : List Nat) (hl : cutOf 5 11 PE.cuts = some live) (nb : Nat) (vals : List (A PU)) (objs : List (AObj PU)) (K : A PU → List (AObj PU) → Prop) (h : D5_11 (k + 1) nb vals objs K) : fnOk PE.P 5 = true ∧ Hold (vcut PE (PT k) (PC k) 5 11 live nb vals objs K) := by
  obtain rfl : live = [2, 3, 4, 9, 11] := Option.some.inj (hl.symm.trans (by kernel_rfl : cutOf 5 11 PE.cuts = some [2, 3, 4, 9, 11]))
  refine ⟨fnok5, ?_⟩; unfold D5_11 at h; split at h
  · exact Hold.mp (by kernel_rfl) h.out
  · exact Hold.mp (by kernel_rfl) h.out
  · exact h.elim
theorem D5_14_z (nb : Nat) (vals : List (A PU)) (objs : List (AObj PU)) (K : A PU → List (AObj PU) → Prop) : ¬ D5_14 0 nb vals objs K := by
  intro h; unfold D5_14 at h; split at h <;> (first | exact h | exact h.out)
theorem D5_14_ok (k : Nat) (live : List Nat) (hl : cutOf 5 14 PE.cuts = some live) (nb : Nat) (vals : List (A PU)) (objs : List (AObj PU)) (K : A PU → List (AObj PU) → Prop) (h : D5_14 (k + 1) nb vals objs K) : fnOk PE.P 5 = true ∧ Hold (vcut PE (PT k) (PC k) 5 14 live nb vals objs K) := by
  obtain rfl : live = [2, 3, 4, 9, 11, 12] := Option.some.inj (hl.symm.trans (by kernel_rfl : cutOf 5 14 PE.cuts = some [2, 3, 4, 9, 11, 12]))
  refine ⟨fnok5, ?_⟩; unfold D5_14 at h; split at h
  · exact Hold.mp (by kernel_rfl) h.out
  · exact Hold.mp (by kernel_rfl) h.out
  · exact h.elim
theorem D5_16_z (nb : Nat) (vals : List (A PU)) (objs : List (AObj PU)) (K : A PU → List (AObj PU) → Prop) : ¬ D5_16 0 nb vals objs K := by
  intro h; unfold D5_16 at h; split at h <;> (first | exact h | exact h.out)
theorem D5_16_ok (k : Nat) (live : List Nat) (hl : cutOf 5 16 PE.cuts = some live) (nb : Nat) (vals : List (A PU)) (objs : List (AObj PU)) (K : A PU → List (AObj PU) → Prop) (h : D5_16 (k + 1) nb vals objs K) : fnOk PE.P 5 = true ∧ Hold (vcut PE (PT k) (PC k) 5 16 live nb vals objs K) := by
  obtain rfl : live = [2, 3, 4, 9, 11, 12] := Option.some.inj (hl.symm.trans (by kernel_rfl : cutOf 5 16 PE.cuts = some [2, 3, 4, 9, 11, 12]))
  refine ⟨fnok5, ?_⟩; unfold D5_16 at h; split at h
  · exact Hold.mp (by kernel_rfl) h.out
  · exact Hold.mp (by kernel_rfl) h.out
  · exact h.elim
theorem D5_15_z (nb : Nat) (vals : List (A PU)) (objs : List (AObj PU)) (K : A PU → List (AObj PU) → Prop) : ¬ D5_15 0 nb vals objs K := by
  intro h; unfold D5_15 at h; split at h <;> (first | exact h | exact h.out)
theorem D5_15_ok (k : Nat) (live : List Nat) (hl : cutOf 5 15 PE.cuts = some live) (nb : Nat) (vals : List (A PU)) (objs : List (AObj PU)) (K : A PU → List (AObj PU) → Prop) (h : D5_15 (k + 1) nb vals objs K) : fnOk PE.P 5 = true ∧ Hold (vcut PE (PT k) (PC k) 5 15 live nb vals objs K) := by
  obtain rfl : live = [2, 3, 4, 9, 11, 12] := Option.some.inj (hl.symm.trans (by kernel_rfl : cutOf 5 15 PE.cuts = some [2, 3, 4, 9, 11, 12]))
  refine ⟨fnok5, ?_⟩; unfold D5_15 at h; split at h
  · exact Hold.mp (by kernel_rfl) h.out
  · exact Hold.mp (by kernel_rfl) h.out
  · exact h.elim
theorem D6_10_z (nb : Nat) (vals : List (A PU)) (objs : List (AObj PU)) (K : A PU → List (AObj PU) → Prop) : ¬ D6_10 0 nb vals objs K := by
  intro h; unfold D6_10 at h; split at h <;> (first | exact h | exact h.out)
theorem D6_10_ok (k : Nat) (live : List Nat) (hl : cutOf 6 10 PE.cuts = some live) (nb : Nat) (vals : List (A PU)) (objs : List (AObj PU)) (K : A PU → List (AObj PU) → Prop) (h : D6_10 (k + 1) nb vals objs K) : fnOk PE.P 6 = true ∧ Hold (vcut PE (PT k) (PC k) 6 10 live nb vals objs K) := by
  obtain rfl : live = [2, 8, 9, 10, 11, 12, 13] := Option.some.inj (hl.symm.trans (by kernel_rfl : cutOf 6 10 PE.cuts = some [2, 8, 9, 10, 11, 12, 13]))
  refine ⟨fnok6, ?_⟩; unfold D6_10 at h; split at h
  · exact Hold.mp (by kernel_rfl) h.out
  · exact h.elim
theorem D40_3_z (nb : Nat) (vals : List (A PU)) (objs : List (AObj PU)) (K : A PU → List (AObj PU) → Prop) : ¬ D40_3 0 nb vals objs K := by
  intro h; unfold D40_3 at h; split at h <;> (first | exact h | exact h.out)
theorem D40_3_ok (k : Nat) (live : List Nat) (hl : cutOf 40 3 PE.cuts = some live) (nb : Nat) (vals : List (A PU)) (objs : List (AObj PU)) (K : A PU → List (AObj PU) → Prop) (h : D40_3 (k + 1) nb vals objs K) : fnOk PE.P 40 = true ∧ Hold (vcut PE (PT k) (PC k) 40 3 live nb vals objs K) := by
  obtain rfl : live = [0, 2, 3, 6, 9, 10, 11] := Option.some.inj (hl.symm.trans (by kernel_rfl : cutOf 40 3 PE.cuts = some [0, 2, 3, 6, 9, 10, 11]))
  refine ⟨fnok40, ?_⟩; unfold D40_3 at h; split at h
  · exact Hold.mp (by kernel_rfl) h.out
  · exact Hold.mp (by kernel_rfl) h.out
  · exact h.elim
theorem D48_1_z (nb : Nat) (vals : List (A PU)) (objs : List (AObj PU)) (K : A PU → List (AObj PU) → Prop) : ¬ D48_1 0 nb vals objs K := by
  intro h; unfold D48_1 at h; split at h <;> (first | exact h | exact h.out)
theorem D48_1_ok (k : Nat) (live : List Nat) (hl : cutOf 48 1 PE.cuts = some live) (nb : Nat) (vals : List (A PU)) (objs : List (AObj PU)) (K : A PU → List (AObj PU) → Prop) (h : D48_1 (k + 1) nb vals objs K) : fnOk PE.P 48 = true ∧ Hold (vcut PE (PT k) (PC k) 48 1 live nb vals objs K) := by
  obtain rfl : live = [0, 1, 3] := Option.some.inj (hl.symm.trans (by kernel_rfl : cutOf 48 1 PE.cuts = some [0, 1, 3]))
  refine ⟨fnok48, ?_⟩; unfold D48_1 at h; split at h
  · exact Hold.mp (by kernel_rfl) h.out
  · exact Hold.mp (by kernel_rfl) h.out
  · exact h.elim
theorem D27_5_z (nb : Nat) (vals : List (A PU)) (objs : List (AObj PU)) (K : A PU → List (AObj PU) → Prop) : ¬ D27_5 0 nb vals objs K := by
  intro h; unfold D27_5 at h; split at h <;> (first | exact h | exact h.out)
theorem D27_5_ok (k : Nat) (live : List Nat) (hl : cutOf 27 5 PE.cuts = some live) (nb : Nat) (vals : List (A PU)) (objs : List (AObj PU)) (K : A PU → List (AObj PU) → Prop) (h : D27_5 (k + 1) nb vals objs K) : fnOk PE.P 27 = true ∧ Hold (vcut PE (PT k) (PC k) 27 5 live nb vals objs K) := by
  obtain rfl : live = [1, 2, 3, 7, 8] := Option.some.inj (hl.symm.trans (by kernel_rfl : cutOf 27 5 PE.cuts = some [1, 2, 3, 7, 8]))
  refine ⟨fnok27, ?_⟩; unfold D27_5 at h; split at h
  · exact Hold.mp (by kernel_rfl) h.out
  · exact h.elim
theorem D27_9_z (nb : Nat) (vals : List (A PU)) (objs : List (AObj PU)) (K : A PU → List (AObj PU) → Prop) : ¬ D27_9 0 nb vals objs K := by
  intro h; unfold D27_9 at h; split at h <;> (first | exact h | exact h.out)
theorem D27_9_ok (k : Nat) (live : List Nat) (hl : cutOf 27 9 PE.cuts = some live) (nb : Nat) (vals : List (A PU)) (objs : List (AObj PU)) (K : A PU → List (AObj PU) → Prop) (h : D27_9 (k + 1) nb vals objs K) : fnOk PE.P 27 = true ∧ Hold (vcut PE (PT k) (PC k) 27 9 live nb vals objs K) := by
  obtain rfl : live = [1, 2, 3, 7, 8, 9, 10] := Option.some.inj (hl.symm.trans (by kernel_rfl : cutOf 27 9 PE.cuts = some [1, 2, 3, 7, 8, 9, 10]))
  refine ⟨fnok27, ?_⟩; unfold D27_9 at h; split at h
  · exact Hold.mp (by kernel_rfl) h.out
  · exact h.elim
theorem D8_2_z (nb : Nat) (vals : List (A PU)) (objs : List (AObj PU)) (K : A PU → List (AObj PU) → Prop) : ¬ D8_2 0 nb vals objs K := by
  intro h; unfold D8_2 at h; split at h <;> (first | exact h | exact h.out)
theorem D8_2_ok (k : Nat) (live : List Nat) (hl : cutOf 8 2 PE.cuts = some live) (nb : Nat) (vals : List (A PU)) (objs : List (AObj PU)) (K : A PU → List (AObj PU) → Prop) (h : D8_2 (k + 1) nb vals objs K) : fnOk PE.P 8 = true ∧ Hold (vcut PE (PT k) (PC k) 8 2 live nb vals objs K) := by
  obtain rfl : live = [] := Option.some.inj (hl.symm.trans (by kernel_rfl : cutOf 8 2 PE.cuts = some []))
  refine ⟨fnok8, ?_⟩; unfold D8_2 at h; split at h
  · exact Hold.mp (by kernel_rfl) h.out
  · exact h.elim
theorem D8_7_z (nb : Nat) (vals : List (A PU)) (objs : List (AObj PU)) (K : A PU → List (AObj PU) → Prop) : ¬ D8_7 0 nb vals objs K := by
  intro h; unfold D8_7 at h; split at h <;> (first | exact h | exact h.out)
theorem D8_7_ok (k : Nat) (live : List Nat) (hl : cutOf 8 7 PE.cuts = some live) (nb : Nat) (vals : List (A PU)) (objs : List (AObj PU)) (K : A PU → List (AObj PU) → Prop) (h : D8_7 (k + 1) nb vals objs K) : fnOk PE.P 8 = true ∧ Hold (vcut PE (PT k) (PC k) 8 7 live nb vals objs K) := by
  obtain rfl : live = [1, 2, 3, 7, 8, 9, 10] := Option.some.inj (hl.symm.trans (by kernel_rfl : cutOf 8 7 PE.cuts = some [1, 2, 3, 7, 8, 9, 10]))
  refine ⟨fnok8, ?_⟩; unfold D8_7 at h; split at h
  · exact Hold.mp (by kernel_rfl) h.out
  · exact h.elim
theorem D8_11_z (nb : Nat) (vals : List (A PU)) (objs : List (AObj PU)) (K : A PU → List (AObj PU) → Prop) : ¬ D8_11 0 nb vals objs K := by
  intro h; unfold D8_11 at h; split at h <;> (first | exact h | exact h.out)
theorem D8_11_ok (k : Nat) (live : List Nat) (hl : cutOf 8 11 PE.cuts = some live) (nb : Nat) (vals : List (A PU)) (objs : List (AObj PU)) (K : A PU → List (AObj PU) → Prop) (h : D8_11 (k + 1) nb vals objs K) : fnOk PE.P 8 = true ∧ Hold (vcut PE (PT k) (PC k) 8 11 live nb vals objs K) := by
  obtain rfl : live = [1, 2, 3, 7, 8, 9, 10] := Option.some.inj (hl.symm.trans (by kernel_rfl : cutOf 8 11 PE.cuts = some [1, 2, 3, 7, 8, 9, 10]))
  refine ⟨fnok8, ?_⟩; unfold D8_11 at h; split at h
  · exact Hold.mp (by kernel_rfl) h.out
  · exact h.elim
theorem PSound (k : Nat) : TSound PE (PT k) ∧ CSound PE (PC k) :=
  tablesL PEok (by kernel_rfl) PTr PCr
    (List.forall_mem_cons.2 ⟨T9_z, List.forall_mem_cons.2 ⟨T28_z, List.forall_mem_cons.2 ⟨T10_z, List.forall_mem_cons.2 ⟨T29_z, List.forall_mem_cons.2 ⟨T30_z, List.forall_mem_cons.2 ⟨T36_z, List.forall_mem_cons.2 ⟨T15_z, List.forall_mem_cons.2 ⟨T11_z, List.forall_mem_cons.2 ⟨T31_z, List.forall_mem_cons.2 ⟨T32_z, List.forall_mem_cons.2 ⟨T37_z, List.forall_mem_cons.2 ⟨T19_z, List.forall_mem_cons.2 ⟨T33_z, List.forall_mem_cons.2 ⟨T12_z, List.forall_mem_cons.2 ⟨T34_z, List.forall_mem_cons.2 ⟨T13_z, List.forall_mem_cons.2 ⟨T35_z, List.forall_mem_cons.2 ⟨T14_z, List.forall_mem_cons.2 ⟨T3_z, List.forall_mem_cons.2 ⟨T16_z, List.forall_mem_cons.2 ⟨T18_z, List.forall_mem_cons.2 ⟨T17_z, List.forall_mem_cons.2 ⟨T44_z, List.forall_mem_cons.2 ⟨T38_z, List.forall_mem_cons.2 ⟨T21_z, List.forall_mem_cons.2 ⟨T45_z, List.forall_mem_cons.2 ⟨T39_z, List.forall_mem_cons.2 ⟨T23_z, List.forall_mem_cons.2 ⟨T20_z, List.forall_mem_cons.2 ⟨T22_z, List.forall_mem_cons.2 ⟨T24_z, List.forall_mem_cons.2 ⟨T4_z, List.forall_mem_cons.2 ⟨T5_z, List.forall_mem_cons.2 ⟨T6_z, List.forall_mem_cons.2 ⟨T41_z, List.forall_mem_cons.2 ⟨T42_z, List.forall_mem_cons.2 ⟨T43_z, List.forall_mem_cons.2 ⟨T40_z, List.forall_mem_cons.2 ⟨T26y7_z, List.forall_mem_cons.2 ⟨T48_z, List.forall_mem_cons.2 ⟨T26_z, List.forall_mem_cons.2 ⟨T25_z, List.forall_mem_cons.2 ⟨T27_z, List.forall_mem_cons.2 ⟨T7_z, List.forall_mem_cons.2 ⟨T8_z, (fun _ h => nomatch h)⟩⟩⟩⟩⟩⟩⟩⟩⟩⟩⟩⟩⟩⟩⟩⟩⟩⟩⟩⟩⟩⟩⟩⟩⟩⟩⟩⟩⟩⟩⟩⟩⟩⟩⟩⟩⟩⟩⟩⟩⟩⟩⟩⟩⟩)
    (List.forall_mem_cons.2 ⟨D29_3_z, List.forall_mem_cons.2 ⟨D29_7_z, List.forall_mem_cons.2 ⟨D30_3_z, List.forall_mem_cons.2 ⟨D36_4_z, List.forall_mem_cons.2 ⟨D11_5_z, List.forall_mem_cons.2 ⟨D11_14_z, List.forall_mem_cons.2 ⟨D31_2_z, List.forall_mem_cons.2 ⟨D32_3_z, List.forall_mem_cons.2 ⟨D37_2_z, List.forall_mem_cons.2 ⟨D19_4_z, List.forall_mem_cons.2 ⟨D33_3_z, List.forall_mem_cons.2 ⟨D12_8_z, List.forall_mem_cons.2 ⟨D12_16_z, List.forall_mem_cons.2 ⟨D34_4_z, List.forall_mem_cons.2 ⟨D3_8_z, List.forall_mem_cons.2 ⟨D3_12_z, List.forall_mem_cons.2 ⟨D18_3_z, List.forall_mem_cons.2 ⟨D17_4_z, List.forall_mem_cons.2 ⟨D45_2_z, List.forall_mem_cons.2 ⟨D22_3_z, List.forall_mem_cons.2 ⟨D4_8_z, List.forall_mem_cons.2 ⟨D4_12_z, List.forall_mem_cons.2 ⟨D5_8_z, List.forall_mem_cons.2 ⟨D5_9_z, List.forall_mem_cons.2 ⟨D5_11_z, List.forall_mem_cons.2 ⟨D5_14_z, List.forall_mem_cons.2 ⟨D5_16_z, List.forall_mem_cons.2 ⟨D5_15_z, List.forall_mem_cons.2 ⟨D6_10_z, List.forall_mem_cons.2 ⟨D40_3_z, List.forall_mem_cons.2 ⟨D48_1_z, List.forall_mem_cons.2 ⟨D27_5_z, List.forall_mem_cons.2 ⟨D27_9_z, List.forall_mem_cons.2 ⟨D8_2_z, List.forall_mem_cons.2 ⟨D8_7_z, List.forall_mem_cons.2 ⟨D8_11_z, (fun _ h => nomatch h)⟩⟩⟩⟩⟩⟩⟩⟩⟩⟩⟩⟩⟩⟩⟩⟩⟩⟩⟩⟩⟩⟩⟩⟩⟩⟩⟩⟩⟩⟩⟩⟩⟩⟩⟩⟩)
    (fun k => List.forall_mem_cons.2 ⟨T9_ok k, List.forall_mem_cons.2 ⟨T28_ok k, List.forall_mem_cons.2 ⟨T10_ok k, List.forall_mem_cons.2 ⟨T29_ok k, List.forall_mem_cons.2 ⟨T30_ok k, List.forall_mem_cons.2 ⟨T36_ok k, List.forall_mem_cons.2 ⟨T15_ok k, List.forall_mem_cons.2 ⟨T11_ok k, List.forall_mem_cons.2 ⟨T31_ok k, List.forall_mem_cons.2 ⟨T32_ok k, List.forall_mem_cons.2 ⟨T37_ok k, List.forall_mem_cons.2 ⟨T19_ok k, List.forall_mem_cons.2 ⟨T33_ok k, List.forall_mem_cons.2 ⟨T12_ok k, List.forall_mem_cons.2 ⟨T34_ok k, List.forall_mem_cons.2 ⟨T13_ok k, List.forall_mem_cons.2 ⟨T35_ok k, List.forall_mem_cons.2 ⟨T14_ok k, List.forall_mem_cons.2 ⟨T3_ok k, List.forall_mem_cons.2 ⟨T16_ok k, List.forall_mem_cons.2 ⟨T18_ok k, List.forall_mem_cons.2 ⟨T17_ok k, List.forall_mem_cons.2 ⟨T44_ok k, List.forall_mem_cons.2 ⟨T38_ok k, List.forall_mem_cons.2 ⟨T21_ok k, List.forall_mem_cons.2 ⟨T45_ok k, List.forall_mem_cons.2 ⟨T39_ok k, List.forall_mem_cons.2 ⟨T23_ok k, List.forall_mem_cons.2 ⟨T20_ok k, List.forall_mem_cons.2 ⟨T22_ok k, List.forall_mem_cons.2 ⟨T24_ok k, List.forall_mem_cons.2 ⟨T4_ok k, List.forall_mem_cons.2 ⟨T5_ok k, List.forall_mem_cons.2 ⟨T6_ok k, List.forall_mem_cons.2 ⟨T41_ok k, List.forall_mem_cons.2 ⟨T42_ok k, List.forall_mem_cons.2 ⟨T43_ok k, List.forall_mem_cons.2 ⟨T40_ok k, List.forall_mem_cons.2 ⟨T26y7_ok k, List.forall_mem_cons.2 ⟨T48_ok k, List.forall_mem_cons.2 ⟨T26_ok k, List.forall_mem_cons.2 ⟨T25_ok k, List.forall_mem_cons.2 ⟨T27_ok k, List.forall_mem_cons.2 ⟨T7_ok k, List.forall_mem_cons.2 ⟨T8_ok k, (fun _ h => nomatch h)⟩⟩⟩⟩⟩⟩⟩⟩⟩⟩⟩⟩⟩⟩⟩⟩⟩⟩⟩⟩⟩⟩⟩⟩⟩⟩⟩⟩⟩⟩⟩⟩⟩⟩⟩⟩⟩⟩⟩⟩⟩⟩⟩⟩⟩)
    (fun k => List.forall_mem_cons.2 ⟨D29_3_ok k, List.forall_mem_cons.2 ⟨D29_7_ok k, List.forall_mem_cons.2 ⟨D30_3_ok k, List.forall_mem_cons.2 ⟨D36_4_ok k, List.forall_mem_cons.2 ⟨D11_5_ok k, List.forall_mem_cons.2 ⟨D11_14_ok k, List.forall_mem_cons.2 ⟨D31_2_ok k, List.forall_mem_cons.2 ⟨D32_3_ok k, List.forall_mem_cons.2 ⟨D37_2_ok k, List.forall_mem_cons.2 ⟨D19_4_ok k, List.forall_mem_cons.2 ⟨D33_3_ok k, List.forall_mem_cons.2 ⟨D12_8_ok k, List.forall_mem_cons.2 ⟨D12_16_ok k, List.forall_mem_cons.2 ⟨D34_4_ok k, List.forall_mem_cons.2 ⟨D3_8_ok k, List.forall_mem_cons.2 ⟨D3_12_ok k, List.forall_mem_cons.2 ⟨D18_3_ok k, List.forall_mem_cons.2 ⟨D17_4_ok k, List.forall_mem_cons.2 ⟨D45_2_ok k, List.forall_mem_cons.2 ⟨D22_3_ok k, List.forall_mem_cons.2 ⟨D4_8_ok k, List.forall_mem_cons.2 ⟨D4_12_ok k, List.forall_mem_cons.2 ⟨D5_8_ok k, List.forall_mem_cons.2 ⟨D5_9_ok k, List.forall_mem_cons.2 ⟨D5_11_ok k, List.forall_mem_cons.2 ⟨D5_14_ok k, List.forall_mem_cons.2 ⟨D5_16_ok k, List.forall_mem_cons.2 ⟨D5_15_ok k, List.forall_mem_cons.2 ⟨D6_10_ok k, List.forall_mem_cons.2 ⟨D40_3_ok k, List.forall_mem_cons.2 ⟨D48_1_ok k, List.forall_mem_cons.2 ⟨D27_5_ok k, List.forall_mem_cons.2 ⟨D27_9_ok k, List.forall_mem_cons.2 ⟨D8_2_ok k, List.forall_mem_cons.2 ⟨D8_7_ok k, List.forall_mem_cons.2 ⟨D8_11_ok k, (fun _ h => nomatch h)⟩⟩⟩⟩⟩⟩⟩⟩⟩⟩⟩⟩⟩⟩⟩⟩⟩⟩⟩⟩⟩⟩⟩⟩⟩⟩⟩⟩⟩⟩⟩⟩⟩⟩⟩⟩) k
end Go.V
