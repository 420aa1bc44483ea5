/- V, second part: regions, the way through a body, calls, and the places where a body is cut. -/
import Derived.Test.YtilnpbcodachoaaVDefs
set_option linter.unusedVariables false
namespace Go.V
section
variable {U : Nat → Type}

def addN (l : List Nat) (n : Nat) : List Nat := cond (memN n l) l (l ++ [n])
def addNs (l : List Nat) : List Nat → List Nat
  | [] => l
  | n :: r => addNs (addN l n) r
def idxN (n : Nat) : List Nat → Nat
  | [] => 0
  | m :: l => cond (Nat.beq m n) 0 (idxN n l + 1)
def countN (n : Nat) : List Nat → Nat
  | [] => 0
  | m :: l => cond (Nat.beq m n) (countN n l + 1) (countN n l)
def nthN (l : List Nat) (k : Nat) (d : Nat) : Nat := match l, k with
  | [], _ => d
  | a :: _, 0 => a
  | _ :: l, k + 1 => nthN l k d
def distinctN : List Nat → Bool
  | [] => true
  | n :: l => !memN n l && distinctN l
def apartN (l : List Nat) : List Nat → Bool
  | [] => true
  | n :: r => !memN n l && apartN l r
def upto : Nat → List Nat
  | 0 => []
  | n + 1 => upto n ++ [n]

mutual
/-- the boxes that a value names -/
def ptrs : A U → List Nat
  | .ptr n _ => [n]
  | .agg l | .tup l | .clo _ l => ptrss l
  | _ => []
def ptrss : List (A U) → List Nat
  | [] => []
  | a :: l => ptrs a ++ ptrss l
end
mutual
/-- the lists that a value names -/
def owns : A U → List Nat
  | .own n | .sub n .. => [n]
  | .agg l | .tup l | .clo _ l => ownss l
  | _ => []
def ownss : List (A U) → List Nat
  | [] => []
  | a :: l => owns a ++ ownss l
end
mutual
def loan : A U → Bool
  | .ro b .. | .clip b .. | .rp b .. => b
  | .agg l | .tup l | .clo _ l => loans l
  | _ => false
def loans : List (A U) → Bool
  | [] => false
  | a :: l => loan a || loans l
end

def objA : AObj U → A U
  | .box a => a
  | _ => .none

/-- all boxes that are reached, breadth first; the first ones are given -/
def reach (nm : A U → List Nat) (h : Nat → AObj U) : (fuel j : Nat) → List Nat → List Nat
  | 0, _, l => l
  | n + 1, j, l => match l.drop j with
    | [] => l
    | m :: _ => reach nm h n (j + 1) (addNs l (nm (objA (h m))))

variable (E : Env U)

mutual
/-- an argument, as the callee has it -/
def inA (h : Nat → AObj U) (L : List Nat) : A U → A U
  | .own m => match h m with
    | .lst c l | .fz c l => .ro true c l
    | _ => .none
  | .sub m c i len => match content E h (.sub m c i len) with
    | some ⟨_, c, l⟩ => .ro true c l
    | .none => .none
  | .bsl .. => .none
  | .nils c => .ro false c []
  | .ptr n p => .ptr (idxN n L) p
  | .agg l => .agg (inAs h L l)
  | .clo f l => .clo f (inAs h L l)
  | .tup _ | .none | .usl .. => .none
  | a => a
def inAs (h : Nat → AObj U) (L : List Nat) : List (A U) → List (A U)
  | [] => []
  | a :: l => inA h L a :: inAs h L l
end
mutual
/-- a box's content, as the callee has it -/
def inB (h : Nat → AObj U) (L : List Nat) : A U → A U
  | .own m => match h m with
    | .lst c l => .usl c l
    | .fz c l => .ro false c l
    | _ => .none
  | .sub m c' i len => match h m with
    | .lst c l => cond (Nat.beq c c') (.usl c (cut l i len)) .none
    | .fz c l => cond (Nat.beq c c') (.ro false c (cut l i len)) .none
    | _ => .none
  | .bsl .. => .none
  | .nils c => .usl c []
  | .clip b c l => .ro b c l
  | .ptr n p => .ptr (idxN n L) p
  | .agg l => .agg (inBs h L l)
  | .clo f l => .clo f (inBs h L l)
  | .tup _ | .none | .usl .. => .none
  | a => a
def inBs (h : Nat → AObj U) (L : List Nat) : List (A U) → List (A U)
  | [] => []
  | a :: l => inB h L a :: inBs h L l
end
mutual
/-- what a call gave, with names of the caller's: (the value, the new lists, the next name) -/
def nameA (L : List Nat) (b : Nat) : A U → Nat → A U × (List (Nat × AObj U) × Nat)
  | .usl c l, n => (.own n, ([(n, .lst c l)], n + 1))
  | .ptr k p, n => (.ptr (nthN L k (b + k)) p, ([], n))
  | .agg l, n => let r := nameAs L b l n; (.agg r.1, r.2)
  | .tup l, n => let r := nameAs L b l n; (.tup r.1, r.2)
  | .clo f l, n => let r := nameAs L b l n; (.clo f r.1, r.2)
  | a, n => (a, ([], n))
def nameAs (L : List Nat) (b : Nat) : List (A U) → Nat → List (A U) × (List (Nat × AObj U) × Nat)
  | [], n => ([], ([], n))
  | a :: l, n =>
    let r := nameA L b a n
    let q := nameAs L b l r.2.2
    (r.1 :: q.1, (r.2.1 ++ q.2.1, q.2.2))
end

def boxesOf (h : Nat → AObj U) (L : List Nat) : List (A U) := L.map fun n => objA (h n)
def isBox : AObj U → Bool
  | .box _ => true
  | _ => false
def isLst : AObj U → Bool
  | .lst .. => true
  | _ => false
def fzOf (h : Nat → AObj U) : List Nat → List (Nat × AObj U)
  | [] => []
  | n :: l => (match h n with | .lst c x => [(n, .fz c x)] | _ => []) ++ fzOf h l
def zipN (L : List Nat) (b : Nat) : Nat → List (A U) → List (Nat × AObj U)
  | _, [] => []
  | k, a :: l => (nthN L k (b + k), .box a) :: zipN L b (k + 1) l

abbrev Fn (U : Nat → Type) := List (A U) → List (A U) → (A U → List (A U) → Prop) → Prop
abbrev Tab (U : Nat → Type) := FuncId → Fn U
abbrev Cut (U : Nat → Type) := FuncId → Nat → Nat → List (A U) → List (AObj U) → (A U → List (A U) → Prop) → Prop

/-- a call, out of a state; 'b': the first name that is free for what it makes -/
def callK (T : Tab U) (b : Nat) (s : S U) (d : Option Nat) (f : FuncId) (args : List (A U)) (K : S U → Prop) : Prop :=
  let args' := inAs E s.h [] args
  cond ((ptrss args).isEmpty && !holes args')
    (T f args' [] fun r bs => match bs with
      | [] =>
        let rr := nameA [] b r b
        cond ((ptrs r).isEmpty && Nat.ble rr.2.2 (b + 100))
          (K (s.put (cond (loan r) (fzOf s.h (ownss args)) [] ++ rr.2.1) d rr.1)) False
      | _ => False)
    False

def S.nm (s : S U) (i : Nat) : Nat := s.nx + 100 * i

/-- one operation -/
def vop (T : Tab U) (i : Nat) (o : Oper) (s : S U) (K : S U → Prop) : Prop :=
  match plan E (s.nm i) o s with
  | .bad => False
  | .done .none _ wr v => K (s.put wr o.dst v)
  | .done (some q) _ wr v => q ∧ K (s.put wr o.dst v)
  | .call f args => callK E T (s.nm i) s o.dst f args K

/-- the operations of a region, in a row -/
def vops (T : Tab U) (ops : List Oper) : List (Nat × Oper) → S U → (S U → Prop) → Prop
  | [], s, K => K s
  | (i, o) :: r, s, K => match o.guard with
    | .none => vop E T i o s fun s' => vops T ops r s' K
    | some (j, want) => match ops[j]? with
      | some og => match og.dst with
        | some d => match s.t d with
          | .bool c => cond c
              (cond want (vop E T i o (s.put [] (some d) (.bool true)) fun s' => vops T ops r s' K) (vops T ops r ((s.put [] (some d) (.bool true)).put [] o.dst (.tup [])) K))
              (cond want (vops T ops r ((s.put [] (some d) (.bool false)).put [] o.dst (.tup [])) K) (vop E T i o (s.put [] (some d) (.bool false)) fun s' => vops T ops r s' K))
          | .tup [] => vops T ops r (s.put [] o.dst (.tup [])) K
          | _ => False
        | .none => False
      | .none => False

def enum : Nat → List Oper → List (Nat × Oper)
  | _, [] => []
  | i, o :: l => (i, o) :: enum (i + 1) l
def S.done (s : S U) (n : Nat) : S U := { s with nx := s.nm n }

-- a region whose order is open
/-- an operation that only looks, computes, or makes memory of its own -/
def soft (o : Oper) : Bool := match o.op with
  | .store .. => false
  | .call { callee := .builtin .len, .. } | .call { callee := .builtin .max, .. } | .call { callee := .builtin .min, .. } => true
  | .call _ => false
  | _ => true
def guardTmp (ops : List Oper) (o : Oper) : Option Nat := match o.guard with
  | some (j, _) => match ops[j]? with | some og => og.dst | .none => .none
  | .none => .none
def tmpsOf : List Operand → List Nat
  | [] => []
  | .tmp t :: l => t :: tmpsOf l
  | _ :: l => tmpsOf l
def uses (ops : List Oper) (o : Oper) : List Nat :=
  tmpsOf o.op.operands.toList ++ (match guardTmp ops o with | some d => [d] | .none => [])

def edges : List Edge → List Nat
  | [] => []
  | e :: l => cond (Region.binds .any e) (e.on :: edges l) (edges l)
def allIn (done : List Nat) : List Nat → Bool
  | [] => true
  | n :: l => memN n done && allIn done l
/-- the first operation, of the asked kind, all of whose edges are done -/
def pick1 (kind : Bool) (done : List Nat) : List (Nat × Oper) → Option (Nat × Oper)
  | [] => .none
  | (i, o) :: l => cond ((soft o == kind) && (!memN i done && allIn done (edges o.after.toList))) (some (i, o)) (pick1 kind done l)
/-- an order in which they go: the soft ones as early as they can -/
def sched (l : List (Nat × Oper)) : (fuel : Nat) → (done : List Nat) → List (Nat × Oper)
  | 0, _ => []
  | n + 1, done => match pick1 true done l with
    | some x => x :: sched l n (x.1 :: done)
    | .none => match pick1 false done l with
      | some x => x :: sched l n (x.1 :: done)
      | .none => []
/-- whatever is behind: all that an operation hangs on, by the places -/
def befores : List Oper → List (List Nat) → List (List Nat)
  | [], acc => acc
  | o :: l, acc => befores l (acc ++ [(edges o.after.toList).foldl (fun s e => addNs (addN s e) (acc.getD e [])) []])
def befOf (b : List (List Nat)) (i : Nat) : List Nat := b.getD i []

/-- two operations that may go either way round touch no temporary of each other's -/
def apartT (ops : List Oper) (x y : Oper) : Bool :=
  (match x.dst with | some d => !memN d (uses ops y) && (match y.dst with | some e => !Nat.beq d e | .none => true) | .none => true) &&
  (match y.dst with | some e => !memN e (uses ops x) | .none => true)
def statRow (b : List Nat) (i : Nat) (o : Oper) : List (Nat × Oper) → Bool
  | [] => true
  | (j, p) :: l => (cond (Nat.blt j i) (memN j b || (soft p || soft o)) true) && statRow b i o l
/-- what is asked of a region whose order is open, of its text alone -/
def stat (ops : List Oper) : Bool :=
  let l := enum 0 ops
  let b := befores ops []
  l.all fun x => statRow (befOf b x.1) x.1 x.2 l && (x.2.after.toList.all fun e => Nat.blt e.on x.1)

/-- the names that an operation changes -/
def wrOf : Plan U → List Nat
  | .done _ _ wr _ => wr.map (·.1)
  | .call _ args => ownss args
  | .bad => []
/-- the names that an operation looks at or changes -/
def lookOf : Plan U → List Nat
  | .done _ rd wr _ => rd ++ wr.map (·.1)
  | .call _ args => ownss args
  | .bad => []
def outs (b : Nat) : List Nat → Bool
  | [] => true
  | n :: l => (Nat.blt n b || Nat.ble (b + 100) n) && outs b l
/-- an operation that has been run ahead: its place, itself, the names that it looks at, those that it changes -/
structure Ahead where
  i : Nat
  o : Oper
  look : List Nat
  wr : List Nat
/-- an operation and those that have been run ahead do not meet, but for those that it waits for -/
def clear (ops : List Oper) (b : Nat) (bef : List Nat) (o : Oper) (look wr : List Nat) : List Ahead → Bool
  | [] => true
  | q :: l => (memN q.i bef || (apartT ops q.o o && (apartN wr q.look && (apartN look q.wr && outs b q.look)))) && clear ops b bef o look wr l

/-- one operation, where the order is open -/
def vopD (T : Tab U) (ops : List Oper) (bef : List (List Nat)) (i : Nat) (o : Oper) (acc : List Ahead) (s : S U) (K : List Ahead → S U → Prop) : Prop :=
  let p := plan E (s.nm i) o s
  cond (clear ops (s.nm i) (befOf bef i) o (lookOf p) (wrOf p) acc)
    (vop E T i o s (K (cond (soft o) (acc ++ [⟨i, o, lookOf p, wrOf p⟩]) acc))) False
/-- and one that is not wanted -/
def vskip (ops : List Oper) (bef : List (List Nat)) (i : Nat) (o : Oper) (acc : List Ahead) (s : S U) (K : List Ahead → S U → Prop) : Prop :=
  cond (clear ops (s.nm i) (befOf bef i) o [] [] acc) (K (acc ++ [⟨i, o, [], []⟩]) (s.put [] o.dst (.tup []))) False

def vdraw (T : Tab U) (ops : List Oper) (bef : List (List Nat)) : List (Nat × Oper) → List Ahead → S U → (S U → Prop) → Prop
  | [], _, s, K => K s
  | (i, o) :: r, acc, s, K => match o.guard with
    | .none => vopD E T ops bef i o acc s fun acc' s' => vdraw T ops bef r acc' s' K
    | some (_, want) => match guardTmp ops o with
      | some d => match s.t d with
        | .bool c => cond c
            (cond want (vopD E T ops bef i o acc (s.put [] (some d) (.bool true)) fun acc' s' => vdraw T ops bef r acc' s' K)
              (vskip ops bef i o acc (s.put [] (some d) (.bool true)) fun acc' s' => vdraw T ops bef r acc' s' K))
            (cond want (vskip ops bef i o acc (s.put [] (some d) (.bool false)) fun acc' s' => vdraw T ops bef r acc' s' K)
              (vopD E T ops bef i o acc (s.put [] (some d) (.bool false)) fun acc' s' => vdraw T ops bef r acc' s' K))
        | .tup [] => vskip ops bef i o acc s fun acc' s' => vdraw T ops bef r acc' s' K
        | _ => False
      | .none => False

def vregion (T : Tab U) (ops : Array Oper) (draw : Bool) (s : S U) (K : S U → Prop) : Prop :=
  let l := ops.toList
  let n := l.length
  cond draw
    (let o := sched (enum 0 l) n []
     cond (Nat.beq o.length n) (vdraw E T l (befores l []) o [] s fun s' => K { s' with nx := s.nm n }) False)
    (vops E T l (enum 0 l) s fun s' => K { s' with nx := s.nm n })

-- the places where a body is cut
def cutOf (f : FuncId) (id : Nat) : List (FuncId × Nat × List Nat) → Option (List Nat)
  | [] => .none
  | (g, i, l) :: r => cond (Nat.beq f g && Nat.beq i id) (some l) (cutOf f id r)

mutual
/-- nil slices get names -/
def denil : A U → Nat → A U × (List (Nat × AObj U) × Nat)
  | .nils c, n => (.own n, ([(n, .lst c [])], n + 1))
  | .agg l, n => let r := denils l n; (.agg r.1, r.2)
  | a, n => (a, ([], n))
def denils : List (A U) → Nat → List (A U) × (List (Nat × AObj U) × Nat)
  | [], n => ([], ([], n))
  | a :: l, n =>
    let r := denil a n
    let q := denils l r.2.2
    (r.1 :: q.1, (r.2.1 ++ q.2.1, q.2.2))
end
mutual
/-- names, renumbered by their places in a list -/
def renA (L : List Nat) : A U → A U
  | .own n => .own (idxN n L)
  | .sub n c i len => .sub (idxN n L) c i len
  | .bsl n p c N i len => .bsl (idxN n L) p c N i len
  | .ptr n p => .ptr (idxN n L) p
  | .agg l => .agg (renAs L l)
  | .tup l => .tup (renAs L l)
  | .clo f l => .clo f (renAs L l)
  | a => a
def renAs (L : List Nat) : List (A U) → List (A U)
  | [] => []
  | a :: l => renA L a :: renAs L l
end
def renO (L : List Nat) : AObj U → AObj U
  | .box a => .box (renA L a)
  | o => o
mutual
/-- all names of a value -/
def names : A U → List Nat
  | .ptr n _ | .own n | .sub n .. | .bsl n .. => [n]
  | .agg l | .tup l | .clo _ l => namess l
  | _ => []
def namess : List (A U) → List Nat
  | [] => []
  | a :: l => names a ++ namess l
end
def denilB (h : Nat → AObj U) : List Nat → Nat → List (Nat × AObj U) × Nat
  | [], n => ([], n)
  | m :: l, n => match h m with
    | .box a =>
      let r := denil a n
      let q := denilB h l r.2.2
      (r.2.1 ++ (m, .box r.1) :: q.1, q.2)
    | _ => denilB h l n

def untup : A U → A U
  | .tup _ => .none
  | a => a
def inN (L : List Nat) : List Nat → Bool
  | [] => true
  | n :: l => memN n L && inN L l
def closedN (h : Nat → AObj U) (L : List Nat) : List Nat → Bool
  | [] => true
  | n :: l => inN L (names (objA (h n))) && closedN h L l
/-- the state at a cut, laid out: the temporaries that live, the objects that they reach -/
def lay (s : S U) (live : List Nat) : Option (List (A U) × List (AObj U)) :=
  let r := denils (live.map fun d => untup (s.t d)) s.nx
  let h1 := upds s.h r.2.1
  let L1 := reach names h1 60 0 (addNs (upto s.nb) (namess r.1))
  let q := denilB h1 L1 r.2.2
  let h2 := upds h1 q.1
  let L := reach names h2 60 0 (addNs (upto s.nb) (namess r.1))
  cond (distinctN L1 && (distinctN L && (inN L (namess r.1) && closedN h2 L L))) (some (renAs L r.1, L.map fun n => renO L (h2 n))) .none
def nthO (l : List (AObj U)) (k : Nat) : AObj U := match l, k with
  | [], _ => .dead
  | a :: _, 0 => a
  | _ :: l, k + 1 => nthO l k
def pairUp (live : List Nat) (vals : List (A U)) : Nat → A U := match live, vals with
  | d :: l, v :: r => fun n => cond (Nat.beq n d) v (pairUp l r n)
  | _, _ => fun _ => .none
/-- and the state that begins there -/
def S.ofLay (live : List Nat) (nb : Nat) (vals : List (A U)) (objs : List (AObj U)) : S U :=
  { t := pairUp live vals, h := nthO objs, nx := objs.length, nb := nb }

-- the end of a body
mutual
def outA (h : Nat → AObj U) (L cnt : List Nat) : A U → A U
  | .own m => match h m with
    | .lst c l => cond (Nat.beq (countN m cnt) 1) (.usl c l) (.ro false c l)
    | .fz c l => .ro false c l
    | _ => .none
  | .sub .. => .none
  | .bsl .. => .none
  | .nils c => .usl c []
  | .clip b c l => .ro b c l
  | .ptr n p => .ptr (idxN n L) p
  | .agg l => .agg (outAs h L cnt l)
  | .tup l => .tup (outAs h L cnt l)
  | .clo f l => cond (ownss l).isEmpty (.clo f (outAs h L cnt l)) .none
  | .usl .. => .none
  | a => a
def outAs (h : Nat → AObj U) (L cnt : List Nat) : List (A U) → List (A U)
  | [] => []
  | a :: l => outA h L cnt a :: outAs h L cnt l
end
def resV (s : S U) : List ResultVar → List (A U)
  | [] => []
  | .tmp d :: l => s.t d :: resV s l
  | .cell d t :: l => (match s.t d with
    | .ptr n p => let v := getO E (s.h n) p; cond (fits E t v) v .none
    | _ => .none) :: resV s l
def one : List (A U) → A U
  | [a] => a
  | l => .tup l
mutual
def holeT : A U → Bool
  | .tup l => holes l
  | a => hole a
end
def anyTup : List (A U) → Bool
  | [] => false
  | .tup _ :: _ => true
  | _ :: l => anyTup l
def vret (res : Array ResultVar) (s : S U) (K : A U → List (A U) → Prop) : Prop :=
  let r := one (resV E s res.toList)
  let r' := outA s.h [] (owns r) r
  cond (!holeT r' && ((ptrs r).isEmpty && !anyTup (resV E s res.toList))) (K r' []) False

/-- the way on, from what is left to do -/
def vgo (T : Tab U) (C : Cut U) (f : FuncId) (res : Array ResultVar) (K : A U → List (A U) → Prop) : (fuel : Nat) → Bool → List Item → S U → Prop
  | 0, _, _, _ => False
  | n + 1, st, todo, s => match todo with
    | [] => vret E res s K
    | .inBlock _ :: k => vgo T C f res K n false k s
    | .inLoop c :: k => vgo T C f res K n false (.code c :: .inLoop c :: k) s
    | .code c :: k => match c with
      | .skip => vgo T C f res K n false k s
      | .seq a b => vgo T C f res K n st (.code a :: .code b :: k) s
      | .cond c x y => match s.ev E 0 c with
        | .bool b => cond b (vgo T C f res K n false (.code x :: k) s) (vgo T C f res K n false (.code y :: k) s)
        | _ => False
      | .block id c => vgo T C f res K n st (.code c :: .inBlock id :: k) s
      | .loop c => vgo T C f res K n st (.code c :: .inLoop c :: k) s
      | .exit id => match exitTo id k with
        | some k' => vgo T C f res K n false k' s
        | .none => False
      | .ret => vret E res s K
      | .region id ops draw => match st, cutOf f id E.cuts with
        | false, some live => match lay s live with | some x => C f id s.nb x.1 x.2 K | .none => False
        | _, _ => vregion E T ops draw s fun s' => vgo T C f res K n false k s'
      | _ => False
    | _ => False

/-- where a region stands: what is to do from it on -/
def ctxs : Code → List Item → List (Nat × List Item)
  | .region id ops d, k => [(id, .code (.region id ops d) :: k)]
  | .seq a b, k => ctxs a (.code b :: k) ++ ctxs b k
  | .cond _ x y, k => ctxs x k ++ ctxs y k
  | .block i c, k => ctxs c (.inBlock i :: k)
  | .loop c, k => ctxs c (.inLoop c :: k)
  | _, _ => []
def ctxOf (id : Nat) : List (Nat × List Item) → List Item
  | [] => []
  | (i, k) :: l => cond (Nat.beq i id) k (ctxOf id l)
def statC : Code → Bool
  | .region _ ops d => cond d (stat ops.toList) true
  | .seq a b => statC a && statC b
  | .cond _ x y => statC x && statC y
  | .block _ c => statC c
  | .loop c => statC c
  | _ => true
def bodyOf (P : Program) (f : FuncId) : Code := match P.funcs[f]? with
  | some fn => match fn.body with | some c => c | .none => .skip
  | .none => .skip
def resOf (P : Program) (f : FuncId) : Array ResultVar := match P.funcs[f]? with
  | some fn => fn.results
  | .none => #[]

/-- a function's beginning -/
def S.enter (args boxes : List (A U)) : S U :=
  let r := nameAs [] 0 boxes boxes.length
  { t := nth args, h := upds (nthO (r.1.map .box)) r.2.1, nx := r.2.2, nb := boxes.length }
def fuel : Nat := 100000
def vfunc (T : Tab U) (C : Cut U) (f : FuncId) : Fn U := fun args boxes K =>
  vgo E T C f (resOf E.P f) K fuel false [.code (bodyOf E.P f)] (S.enter args boxes)
def vcut (T : Tab U) (C : Cut U) (f : FuncId) (id : Nat) (live : List Nat) : Nat → List (A U) → List (AObj U) → (A U → List (A U) → Prop) → Prop := fun nb vals objs K =>
  vgo E T C f (resOf E.P f) K fuel true (ctxOf id (ctxs (bodyOf E.P f) [])) (S.ofLay live nb vals objs)
end
end Go.V
