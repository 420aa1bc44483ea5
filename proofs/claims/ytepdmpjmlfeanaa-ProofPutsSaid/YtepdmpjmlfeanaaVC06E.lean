import Derived.Test.YtepdmpjmlfeanaaVC06F
import Derived.Test.YtepdmpjmlfeanaaProg
set_option linter.unusedVariables false
namespace Go.V
open Go
def PX : Nat → (α : Type) × α
  | 3 => ⟨Int, (0 : Int)⟩
  | 4 => ⟨Bool, false⟩
  | 5 => ⟨Int, (0 : Int)⟩
  | 9 => ⟨ByteArray, ByteArray.empty⟩
  | 22 => ⟨(List (List Int)), ([] : List (List Int))⟩
  | 24 => ⟨(List Int), (List.replicate 32 (0 : Int))⟩
  | 26 => ⟨S_api_Proof, (S_api_Proof.mk ([] : List (List Int)) false (List.replicate 32 (0 : Int)) (List.replicate 32 (0 : Int)))⟩
  | 28 => ⟨(List Int), ([] : List Int)⟩
  | 29 => ⟨Int, (0 : Int)⟩
  | 42 => ⟨Unit, ()⟩
  | 53 => ⟨Unit, ()⟩
  | 54 => ⟨Unit, ()⟩
  | 57 => ⟨S_octet_Reader, (S_octet_Reader.mk ([] : List Int))⟩
  | 59 => ⟨Unit, ()⟩
  | _ => ⟨Unit, ()⟩
def PU (c : Nat) : Type := (PX c).1
def PEnc : (c : Nat) → PU c → A PU
  | 3, (x : Int) => .int .i64 x
  | 4, (x : Bool) => .bool x
  | 5, (x : Int) => .int .u8 x
  | 9, (x : ByteArray) => .str x
  | 22, (x : (List (List Int))) => .ro false 24 x
  | 24, (x : (List Int)) => .arr 5 32 x
  | 26, (x : S_api_Proof) => .agg [.ro false 24 x.f0, .bool x.f1, .arr 5 32 x.f2, .arr 5 32 x.f3]
  | 28, (x : (List Int)) => .ro false 5 x
  | 29, (x : Int) => .int .i64 x
  | 42, (x : Unit) => .nilp
  | 53, (x : Unit) => .nilf
  | 54, (x : Unit) => .nilf
  | 57, (x : S_octet_Reader) => .agg [.ro false 5 x.f0]
  | 59, (x : Unit) => .nilf
  | _, _ => .agg []
def PDec : (c : Nat) → A PU → Option (PU c)
  | 3, a => (dInt .i64 a).bind fun y1 => some y1
  | 4, a => (dBool a).bind fun y1 => some y1
  | 5, a => (dInt .u8 a).bind fun y1 => some y1
  | 9, a => (dStr a).bind fun y1 => some y1
  | 22, a => (dRo 24 a).bind fun y1 => some y1
  | 24, a => (dArr 5 32 a).bind fun y1 => some y1
  | 26, a => (dAgg a).bind fun l1 => (dCons l1).bind fun p2 => (dRo 24 p2.1).bind fun y3 => (dCons p2.2).bind fun p4 => (dBool p4.1).bind fun y5 => (dCons p4.2).bind fun p6 => (dArr 5 32 p6.1).bind fun y7 => (dCons p6.2).bind fun p8 => (dArr 5 32 p8.1).bind fun y9 => (dEnd p8.2).bind fun _ => some (S_api_Proof.mk y3 y5 y7 y9)
  | 28, a => (dRo 5 a).bind fun y1 => some y1
  | 29, a => (dInt .i64 a).bind fun y1 => some y1
  | 42, a => (dNilp a).bind fun y1 => some y1
  | 53, a => (dNilf a).bind fun y1 => some y1
  | 54, a => (dNilf a).bind fun y1 => some y1
  | 57, a => (dAgg a).bind fun l1 => (dCons l1).bind fun p2 => (dRo 5 p2.1).bind fun y3 => (dEnd p2.2).bind fun _ => some (S_octet_Reader.mk y3)
  | 59, a => (dNilf a).bind fun y1 => some y1
  | _, _ => .none
def PDfl (c : Nat) : PU c := (PX c).2
def PTys : List Row := [⟨3, .int .i64, 1, 8⟩,
  ⟨4, .bool, 1, 1⟩,
  ⟨5, .int .u8, 1, 1⟩,
  ⟨9, .str, 1, 16⟩,
  ⟨22, .sl 24, 1, 24⟩,
  ⟨24, .arr 32 5, 32, 32⟩,
  ⟨26, .st [(22, 0), (4, 1), (24, 2), (24, 34)], 66, 96⟩,
  ⟨28, .sl 5, 1, 24⟩,
  ⟨29, .int .i64, 1, 8⟩,
  ⟨42, .ptr 57, 1, 8⟩,
  ⟨53, .func, 1, 8⟩,
  ⟨54, .func, 1, 8⟩,
  ⟨57, .st [(28, 0)], 1, 24⟩,
  ⟨59, .func, 1, 8⟩]
def PCuts : List (FuncId × Nat × List Nat) := [(12, 3, [5, 10, 11, 12]), (25, 0, [0, 1]), (25, 1, [0, 1]), (6, 9, [5, 49, 50, 51]), (6, 2, [1, 4]), (6, 7, [1, 5]), (7, 11, [1, 4, 6]), (7, 8, [1, 4]), (8, 4, [2, 3, 5]), (24, 4, [0, 2, 19, 20, 21]), (10, 16, [2, 4, 5, 65, 66]), (10, 12, [2, 4, 5]), (21, 5, [0, 2, 5, 6]), (22, 4, [0, 5, 6, 7]), (11, 20, [0, 2, 4, 6, 13, 16]), (11, 15, [0, 2, 4, 5, 6])]
def PProcs : List FuncId := [17, 18, 19, 20, 23, 24, 25]
def PLoops : List (FuncId × Nat × List Nat) := [(13, 5, [6])]
def PEqb : (c : Nat) → List (PU c) → List (PU c) → Bool
  | 3, x, y => eqLI x y
  | 4, x, y => eqLB x y
  | 5, x, y => eqLI x y
  | 9, x, y => eqLS x y
  | 29, x, y => eqLI x y
  | _, _, _ => false
def PToB : (c : Nat) → List (PU c) → Option ByteArray
  | 5, x => some (bytesOf x)
  | _, _ => .none
def POfB : (c : Nat) → ByteArray → Option (List (PU c))
  | 5, x => some (bytesTo x)
  | _, _ => .none
def PGlob : Nat → A PU
  | _ => .none
noncomputable def PE : Env PU where
  P := Go.Proofs.Try.prog
  tys := PTys
  enc := PEnc
  dec := PDec
  dflt := PDfl
  eqb := PEqb
  ofBytes := POfB
  toBytes := PToB
  cuts := PCuts
  procs := PProcs
  loops := PLoops
  eqs := [24]
  glob := PGlob
  lends := []
theorem PEncOk (c : Nat) (x : PU c) : closed (PEnc c x) = true ∧ size PE.sz (PEnc c x) = PE.sz c := by
  unfold PEnc
  split
  · exact ⟨rfl, rfl⟩
  · exact ⟨rfl, rfl⟩
  · exact ⟨rfl, rfl⟩
  · exact ⟨rfl, rfl⟩
  · exact ⟨rfl, rfl⟩
  · exact ⟨rfl, rfl⟩
  · exact ⟨rfl, rfl⟩
  · exact ⟨rfl, rfl⟩
  · exact ⟨rfl, rfl⟩
  · exact ⟨rfl, rfl⟩
  · exact ⟨rfl, rfl⟩
  · exact ⟨rfl, rfl⟩
  · exact ⟨rfl, rfl⟩
  · exact ⟨rfl, rfl⟩
  · rename_i h3 h4 h5 h9 h22 h24 h26 h28 h29 h42 h53 h54 h57 h59
    refine ⟨rfl, ?_⟩
    show 0 = _
    unfold Env.sz
    have hn : rowOf c PE.tys = .none := by
      refine rowOf_none ?_
      intro r hr
      simp only [PE, PTys, List.mem_cons, List.not_mem_nil, or_false] at hr
      rcases hr with rfl | rfl | rfl | rfl | rfl | rfl | rfl | rfl | rfl | rfl | rfl | rfl | rfl | rfl <;> intro e <;> subst e
      · exact h3 _ rfl HEq.rfl
      · exact h4 _ rfl HEq.rfl
      · exact h5 _ rfl HEq.rfl
      · exact h9 _ rfl HEq.rfl
      · exact h22 _ rfl HEq.rfl
      · exact h24 _ rfl HEq.rfl
      · exact h26 _ rfl HEq.rfl
      · exact h28 _ rfl HEq.rfl
      · exact h29 _ rfl HEq.rfl
      · exact h42 _ rfl HEq.rfl
      · exact h53 _ rfl HEq.rfl
      · exact h54 _ rfl HEq.rfl
      · exact h57 _ rfl HEq.rfl
      · exact h59 _ rfl HEq.rfl
    rw [hn]
theorem PDecOk (c : Nat) (a : A PU) (x : PU c) (h : PDec c a = some x) : PEnc c x = a := by
  unfold PDec at h
  split at h
  · obtain ⟨y1, e1, h1⟩ := Option.bind_eq_some_iff.1 h
    obtain rfl : a = .int .i64 y1 := dInt_ok e1
    cases h1; rfl
  · obtain ⟨y1, e1, h1⟩ := Option.bind_eq_some_iff.1 h
    obtain rfl : a = .bool y1 := dBool_ok e1
    cases h1; rfl
  · obtain ⟨y1, e1, h1⟩ := Option.bind_eq_some_iff.1 h
    obtain rfl : a = .int .u8 y1 := dInt_ok e1
    cases h1; rfl
  · obtain ⟨y1, e1, h1⟩ := Option.bind_eq_some_iff.1 h
    obtain rfl : a = .str y1 := dStr_ok e1
    cases h1; rfl
  · obtain ⟨y1, e1, h1⟩ := Option.bind_eq_some_iff.1 h
    obtain rfl : a = .ro false 24 y1 := dRo_ok e1
    cases h1; rfl
  · obtain ⟨y1, e1, h1⟩ := Option.bind_eq_some_iff.1 h
    obtain rfl : a = .arr 5 32 y1 := dArr_ok e1
    cases h1; rfl
  · obtain ⟨l1, e1, h1⟩ := Option.bind_eq_some_iff.1 h
    obtain rfl : a = .agg l1 := dAgg_ok e1
    obtain ⟨⟨q2, r2⟩, e2, h2⟩ := Option.bind_eq_some_iff.1 h1
    obtain rfl : l1 = q2 :: r2 := dCons_ok e2
    obtain ⟨y3, e3, h3⟩ := Option.bind_eq_some_iff.1 h2
    obtain rfl : q2 = .ro false 24 y3 := dRo_ok e3
    obtain ⟨⟨q4, r4⟩, e4, h4⟩ := Option.bind_eq_some_iff.1 h3
    obtain rfl : r2 = q4 :: r4 := dCons_ok e4
    obtain ⟨y5, e5, h5⟩ := Option.bind_eq_some_iff.1 h4
    obtain rfl : q4 = .bool y5 := dBool_ok e5
    obtain ⟨⟨q6, r6⟩, e6, h6⟩ := Option.bind_eq_some_iff.1 h5
    obtain rfl : r4 = q6 :: r6 := dCons_ok e6
    obtain ⟨y7, e7, h7⟩ := Option.bind_eq_some_iff.1 h6
    obtain rfl : q6 = .arr 5 32 y7 := dArr_ok e7
    obtain ⟨⟨q8, r8⟩, e8, h8⟩ := Option.bind_eq_some_iff.1 h7
    obtain rfl : r6 = q8 :: r8 := dCons_ok e8
    obtain ⟨y9, e9, h9⟩ := Option.bind_eq_some_iff.1 h8
    obtain rfl : q8 = .arr 5 32 y9 := dArr_ok e9
    obtain ⟨_, e10, h10⟩ := Option.bind_eq_some_iff.1 h9
    obtain rfl : r8 = [] := dEnd_ok e10
    cases h10; rfl
  · obtain ⟨y1, e1, h1⟩ := Option.bind_eq_some_iff.1 h
    obtain rfl : a = .ro false 5 y1 := dRo_ok e1
    cases h1; rfl
  · obtain ⟨y1, e1, h1⟩ := Option.bind_eq_some_iff.1 h
    obtain rfl : a = .int .i64 y1 := dInt_ok e1
    cases h1; rfl
  · obtain ⟨y1, e1, h1⟩ := Option.bind_eq_some_iff.1 h
    obtain rfl : a = .nilp := dNilp_ok e1
    cases h1; rfl
  · obtain ⟨y1, e1, h1⟩ := Option.bind_eq_some_iff.1 h
    obtain rfl : a = .nilf := dNilf_ok e1
    cases h1; rfl
  · obtain ⟨y1, e1, h1⟩ := Option.bind_eq_some_iff.1 h
    obtain rfl : a = .nilf := dNilf_ok e1
    cases h1; rfl
  · obtain ⟨l1, e1, h1⟩ := Option.bind_eq_some_iff.1 h
    obtain rfl : a = .agg l1 := dAgg_ok e1
    obtain ⟨⟨q2, r2⟩, e2, h2⟩ := Option.bind_eq_some_iff.1 h1
    obtain rfl : l1 = q2 :: r2 := dCons_ok e2
    obtain ⟨y3, e3, h3⟩ := Option.bind_eq_some_iff.1 h2
    obtain rfl : q2 = .ro false 5 y3 := dRo_ok e3
    obtain ⟨_, e4, h4⟩ := Option.bind_eq_some_iff.1 h3
    obtain rfl : r2 = [] := dEnd_ok e4
    cases h4; rfl
  · obtain ⟨y1, e1, h1⟩ := Option.bind_eq_some_iff.1 h
    obtain rfl : a = .nilf := dNilf_ok e1
    cases h1; rfl
  · cases h
theorem PPlain : ∀ r ∈ PE.tys, plainTy r.ty = true → PlainOk PE r.t :=
  List.forall_mem_cons.2 ⟨(fun _ => ⟨fun l m => eqLI_iff l m, fun x y => ⟨decI x y, rfl, decI_iff x y⟩⟩),
  List.forall_mem_cons.2 ⟨(fun _ => ⟨fun l m => eqLB_iff l m, fun x y => ⟨decB x y, rfl, decB_iff x y⟩⟩),
  List.forall_mem_cons.2 ⟨(fun _ => ⟨fun l m => eqLI_iff l m, fun x y => ⟨decI x y, rfl, decI_iff x y⟩⟩),
  List.forall_mem_cons.2 ⟨(fun _ => ⟨fun l m => eqLS_iff l m, fun x y => ⟨seq x y, rfl, seq_iff⟩⟩),
  List.forall_mem_cons.2 ⟨(fun h => nomatch h),
  List.forall_mem_cons.2 ⟨(fun h => nomatch h),
  List.forall_mem_cons.2 ⟨(fun h => nomatch h),
  List.forall_mem_cons.2 ⟨(fun h => nomatch h),
  List.forall_mem_cons.2 ⟨(fun _ => ⟨fun l m => eqLI_iff l m, fun x y => ⟨decI x y, rfl, decI_iff x y⟩⟩),
  List.forall_mem_cons.2 ⟨(fun h => nomatch h),
  List.forall_mem_cons.2 ⟨(fun h => nomatch h),
  List.forall_mem_cons.2 ⟨(fun h => nomatch h),
  List.forall_mem_cons.2 ⟨(fun h => nomatch h),
  List.forall_mem_cons.2 ⟨(fun h => nomatch h),
  (fun _ h => nomatch h)⟩⟩⟩⟩⟩⟩⟩⟩⟩⟩⟩⟩⟩⟩
theorem PToBOk (c : Nat) (l : List (PU c)) (t : ByteArray) (h : PToB c l = some t) : PE.ty c = .int .u8 ∧ ∃ ns : List Int, l.map (PE.enc c) = ns.map (.int .u8) ∧ t = bytesOf ns := by
  unfold PToB at h
  split at h
  · rename_i x; cases h; exact ⟨rfl, x, List.map_congr_left fun _ _ => rfl, rfl⟩
  · cases h
theorem POfBOk (c : Nat) (t : ByteArray) (l : List (PU c)) (h : POfB c t = some l) : PE.ty c = .int .u8 ∧ l.map (PE.enc c) = (bytesTo t).map (.int .u8) := by
  unfold POfB at h
  split at h
  · cases h; exact ⟨rfl, List.map_congr_left fun _ _ => rfl⟩
  · cases h
theorem PGlobOk (g : Nat) : loan (PGlob g) = false ∧ noTupG (PGlob g) = true := by
  unfold PGlob
  split <;> exact ⟨rfl, rfl⟩
theorem PEok : EnvOk2 PE := envOk_of PE ⟨fun c x => (PEncOk c x).1, fun c x => (PEncOk c x).2, PDecOk⟩ (by kernel_rfl) (by kernel_rfl) ⟨PGlobOk, eqA_of PPlain, by kernel_rfl, PToBOk, POfBOk⟩
end Go.V
