/- V, second part: regions, the way through a body, calls, and the places where a body is cut. -/
import Derived.Test.YtnpdhpbhkdejoaaDoorVDefs
set_option linter.unusedVariables false
namespace Go.V
section
variable {U : Nat → Type}

def apartN (l : List Nat) : List Nat → Bool
  | [] => true
  | n :: r => !memN n l && apartN l r
mutual
/-- the boxes that a value names -/
def ptrs : A U → List Nat
  | .ptr n _ | .yld n => [n]
  | .agg l | .tup l | .clo _ l => ptrss l
  | _ => []
def ptrss : List (A U) → List Nat
  | [] => []
  | a :: l => ptrs a ++ ptrss l
end
mutual
def loan : A U → Bool
  | .ro b .. | .clip b .. | .rp b .. => b
  | .agg l | .tup l | .clo _ l => loans l
  | _ => false
def loans : List (A U) → Bool
  | [] => false
  | a :: l => loan a || loans l
end

variable (E : Env U)

mutual
/-- an argument, as the callee has it -/
def inA (h : Nat → AObj U) (L : List Nat) : A U → A U
  | .own m => match h m with
    | .lst c l | .fz c l => .ro true c l
    | _ => .none
  | .sub m c i len => match content E h (.sub m c i len) with
    | some ⟨_, c, l⟩ => .ro true c l
    | .none => .none
  | .bsl .. => .none
  | .nils c => .ro false c []
  | .ptr n p => .ptr (idxN n L) p
  | .agg l => .agg (inAs h L l)
  | .clo f l => .clo f (inAs h L l)
  | .tup _ | .none | .usl .. => .none
  | a => a
def inAs (h : Nat → AObj U) (L : List Nat) : List (A U) → List (A U)
  | [] => []
  | a :: l => inA h L a :: inAs h L l
end
mutual
/-- a box's content, as the callee has it -/
def inB (h : Nat → AObj U) (L : List Nat) : A U → A U
  | .own m => match h m with
    | .lst c l => .usl c l
    | .fz c l => .ro false c l
    | _ => .none
  | .sub m c' i len => match h m with
    | .lst c l => cond (Nat.beq c c') (.usl c (cut l i len)) .none
    | .fz c l => cond (Nat.beq c c') (.ro false c (cut l i len)) .none
    | _ => .none
  | .bsl .. => .none
  | .nils c => .usl c []
  | .clip b c l => .ro b c l
  | .ptr n p => .ptr (idxN n L) p
  | .agg l => .agg (inBs h L l)
  | .clo f l => .clo f (inBs h L l)
  | .tup _ | .none | .usl .. => .none
  | a => a
def inBs (h : Nat → AObj U) (L : List Nat) : List (A U) → List (A U)
  | [] => []
  | a :: l => inB h L a :: inBs h L l
end
mutual
/-- what a call gave, with names of the caller's: (the value, the new lists, the next name) -/
def nameA (L : List Nat) (b : Nat) : A U → Nat → A U × (List (Nat × AObj U) × Nat)
  | .usl c l, n => (.own n, ([(n, .lst c l)], n + 1))
  | .ptr k p, n => (.ptr (nthN L k (b + k)) p, ([], n))
  | .agg l, n => let r := nameAs L b l n; (.agg r.1, r.2)
  | .tup l, n => let r := nameAs L b l n; (.tup r.1, r.2)
  | .clo f l, n => let r := nameAs L b l n; (.clo f r.1, r.2)
  | a, n => (a, ([], n))
def nameAs (L : List Nat) (b : Nat) : List (A U) → Nat → List (A U) × (List (Nat × AObj U) × Nat)
  | [], n => ([], ([], n))
  | a :: l, n =>
    let r := nameA L b a n
    let q := nameAs L b l r.2.2
    (r.1 :: q.1, (r.2.1 ++ q.2.1, q.2.2))
end

def boxesOf (h : Nat → AObj U) (L : List Nat) : List (A U) := L.map fun n => objA (h n)
def isBox : AObj U → Bool
  | .box _ => true
  | _ => false
def isLst : AObj U → Bool
  | .lst .. => true
  | _ => false
def fzOf (h : Nat → AObj U) : List Nat → List (Nat × AObj U)
  | [] => []
  | n :: l => (match h n with | .lst c x => [(n, .fz c x)] | _ => []) ++ fzOf h l
def zipN (L : List Nat) (b : Nat) : Nat → List (A U) → List (Nat × AObj U)
  | _, [] => []
  | k, a :: l => (nthN L k (b + k), .box a) :: zipN L b (k + 1) l

abbrev Fn (U : Nat → Type) := List (A U) → List (AObj U) → (A U → List (AObj U) → Prop) → Prop
abbrev Tab (U : Nat → Type) := FuncId → Fn U
abbrev Cut (U : Nat → Type) := FuncId → Nat → Nat → List (A U) → List (AObj U) → (A U → List (AObj U) → Prop) → Prop

mutual
def mapA (g : Nat → Nat) : A U → A U
  | .own n => .own (g n)
  | .sub n c i len => .sub (g n) c i len
  | .bsl n p c N i len => .bsl (g n) p c N i len
  | .ptr n p => .ptr (g n) p
  | .yld n => .yld (g n)
  | .agg l => .agg (mapAs g l)
  | .tup l => .tup (mapAs g l)
  | .clo f l => .clo f (mapAs g l)
  | a => a
def mapAs (g : Nat → Nat) : List (A U) → List (A U)
  | [] => []
  | a :: l => mapA g a :: mapAs g l
end
def mapO (g : Nat → Nat) : AObj U → AObj U
  | .box a => .box (mapA g a)
  | .lp f id live vals st => .lp f id live (mapAs g vals) st
  | o => o
/-- a callee's name, in the caller: those that were handed in, and new ones from n on -/
def unr (L : List Nat) (n : Nat) (k : Nat) : Nat := nthN L k (n + (k - L.length))
def wrP (L : List Nat) (n : Nat) : Nat → List (AObj U) → List (Nat × AObj U)
  | _, [] => []
  | k, o :: l => (unr L n k, mapO (unr L n) o) :: wrP L n (k + 1) l

/-- a call by names: the callee has what its arguments reach -/
def callP (T : Tab U) (b : Nat) (s : S U) (d : Option Nat) (f : FuncId) (args : List (A U)) (K : S U → Prop) : Prop :=
  cond (args.all known) (match layG s.h b [] args with
    | some x => cond (Nat.ble x.n (b + 100) && x.L.all fun m => Nat.blt m x.n || Nat.ble (b + 100) m) (T f x.vals x.objs fun r objs =>
        cond (Nat.ble x.L.length objs.length && Nat.ble (x.n + (objs.length - x.L.length)) (b + 100))
          (K (s.put (x.wr ++ wrP x.L x.n 0 objs) d (mapA (unr x.L x.n) r))) False) False
    | .none => False) False
/-- a call by names whose slices are lent for good -/
def callL (T : Tab U) (b : Nat) (s : S U) (d : Option Nat) (f : FuncId) (args : List (A U)) (K : S U → Prop) : Prop :=
  let r := lendAll E s.h args
  cond (holes r.1) False (callP T b { s with h := upds s.h r.2 } d f r.1 K)
/-- a call, out of a state; 'b': the first name that is free for what it makes -/
def callK (T : Tab U) (b : Nat) (s : S U) (d : Option Nat) (f : FuncId) (args : List (A U)) (K : S U → Prop) : Prop :=
  cond (Nat.blt f 1000000) (cond (memN f E.procs) (cond (memN f E.lends) (callL E T b s d f args K) (callP T b s d f args K))
  (let args' := inAs E s.h [] args
  cond ((ptrss args).isEmpty && !holes args')
    (T f args' [] fun r bs => match bs with
      | [] =>
        let rr := nameA [] b r b
        cond ((ptrs r).isEmpty && Nat.ble rr.2.2 (b + 100))
          (K (s.put (cond (loan r) (fzOf s.h (ownss args)) [] ++ rr.2.1) d rr.1)) False
      | _ => False)
    False)) False
/-- the row of the table that a round is -/
def ykey (f : FuncId) (id : Nat) : Nat := 1000000 * (f + 1) + id
def recSt (j : Nat) : AObj U → AObj U
  | .lp f id live vals _ => .lp f id live vals j
  | o => o
/-- a round: the loop's record is named n -/
def yieldK (T : Tab U) (b : Nat) (s : S U) (d : Option Nat) (n : Nat) (f : FuncId) (id : Nat) (vals args : List (A U)) (K : S U → Prop) : Prop :=
  cond (args.all known && Nat.blt id 1000000) (match layG s.h b [] (args ++ vals) with
    | some x => cond ((!memN n x.L1 && !memN n x.L) && (Nat.ble x.n (b + 100) && x.L.all fun m => Nat.blt m x.n || Nat.ble (b + 100) m)) (T (ykey f id) x.vals x.objs fun r objs => match r with
        | .clo j [] => cond (Nat.ble x.L.length objs.length && Nat.ble (x.n + (objs.length - x.L.length)) (b + 100))
          (K (s.put ((x.wr ++ wrP x.L x.n 0 objs) ++ [(n, recSt j (s.h n))]) d (.bool (Nat.beq j 0)))) False
        | _ => False) False
    | .none => False) False

def S.nm (s : S U) (i : Nat) : Nat := s.nx + 100 * i

/-- one operation -/
def vop (T : Tab U) (i : Nat) (o : Oper) (s : S U) (K : S U → Prop) : Prop :=
  match plan E (s.nm i) o s with
  | .bad => False
  | .done .none _ wr v => K (s.put wr o.dst v)
  | .done (some q) _ wr v => q ∧ K (s.put wr o.dst v)
  | .call f args _ => callK E T (s.nm i) s o.dst f args K
  | .yield n f id vals args _ => yieldK T (s.nm i) s o.dst n f id vals args K
  | .any q _ neg => ∀ c : Bool, (c = true → q) → K (s.put [] o.dst (.bool (cond neg (!c) c)))

/-- the operations of a region, in a row -/
def vops (T : Tab U) (ops : List Oper) : List (Nat × Oper) → S U → (S U → Prop) → Prop
  | [], s, K => K s
  | (i, o) :: r, s, K => match o.guard with
    | .none => vop E T i o s fun s' => vops T ops r s' K
    | some (j, want) => match ops[j]? with
      | some og => match og.dst with
        | some d => match s.t d with
          | .bool c => cond c
              (cond want (vop E T i o (s.put [] (some d) (.bool true)) fun s' => vops T ops r s' K) (vops T ops r ((s.put [] (some d) (.bool true)).put [] o.dst (.tup [])) K))
              (cond want (vops T ops r ((s.put [] (some d) (.bool false)).put [] o.dst (.tup [])) K) (vop E T i o (s.put [] (some d) (.bool false)) fun s' => vops T ops r s' K))
          | .tup [] => vops T ops r (s.put [] o.dst (.tup [])) K
          | _ => False
        | .none => False
      | .none => False

def enum : Nat → List Oper → List (Nat × Oper)
  | _, [] => []
  | i, o :: l => (i, o) :: enum (i + 1) l
def S.done (s : S U) (n : Nat) : S U := { s with nx := s.nm n }

-- a region whose order is open
/-- an operation that only looks, computes, or makes memory of its own -/
def soft (o : Oper) : Bool := match o.op with
  | .store .. => false
  | .binOp _ _ _ (.const (.slice .none 0 0)) _ => false
  | .call { callee := .builtin .len, .. } | .call { callee := .builtin .max, .. } | .call { callee := .builtin .min, .. } => true
  | .call _ => false
  | _ => true
def guardTmp (ops : List Oper) (o : Oper) : Option Nat := match o.guard with
  | some (j, _) => match ops[j]? with | some og => og.dst | .none => .none
  | .none => .none
def tmpsOf : List Operand → List Nat
  | [] => []
  | .tmp t :: l => t :: tmpsOf l
  | _ :: l => tmpsOf l
def uses (ops : List Oper) (o : Oper) : List Nat :=
  tmpsOf o.op.operands.toList ++ (match guardTmp ops o with | some d => [d] | .none => [])

def edges : List Edge → List Nat
  | [] => []
  | e :: l => cond (Region.binds .any e) (e.on :: edges l) (edges l)
def allIn (done : List Nat) : List Nat → Bool
  | [] => true
  | n :: l => memN n done && allIn done l
/-- the first operation, of the asked kind, all of whose edges are done -/
def pick1 (kind : Bool) (done : List Nat) : List (Nat × Oper) → Option (Nat × Oper)
  | [] => .none
  | (i, o) :: l => cond ((soft o == kind) && (!memN i done && allIn done (edges o.after.toList))) (some (i, o)) (pick1 kind done l)
/-- an order in which they go: the soft ones as early as they can -/
def sched (l : List (Nat × Oper)) : (fuel : Nat) → (done : List Nat) → List (Nat × Oper)
  | 0, _ => []
  | n + 1, done => match pick1 true done l with
    | some x => x :: sched l n (x.1 :: done)
    | .none => match pick1 false done l with
      | some x => x :: sched l n (x.1 :: done)
      | .none => []
/-- whatever is behind: all that an operation hangs on, by the places -/
def befores : List Oper → List (List Nat) → List (List Nat)
  | [], acc => acc
  | o :: l, acc => befores l (acc ++ [(edges o.after.toList).foldl (fun s e => addNs (addN s e) (acc.getD e [])) []])
def befOf (b : List (List Nat)) (i : Nat) : List Nat := b.getD i []

/-- two operations that may go either way round touch no temporary of each other's -/
def apartT (ops : List Oper) (x y : Oper) : Bool :=
  (match x.dst with | some d => !memN d (uses ops y) && (match y.dst with | some e => !Nat.beq d e | .none => true) | .none => true) &&
  (match y.dst with | some e => !memN e (uses ops x) | .none => true)
def statRow (b : List Nat) (i : Nat) (o : Oper) : List (Nat × Oper) → Bool
  | [] => true
  | (j, p) :: l => (cond (Nat.blt j i) (memN j b || (soft p || soft o)) true) && statRow b i o l
/-- what is asked of a region whose order is open, of its text alone -/
def stat (ops : List Oper) : Bool :=
  let l := enum 0 ops
  let b := befores ops []
  l.all fun x => statRow (befOf b x.1) x.1 x.2 l && ((edges x.2.after.toList).all fun n => Nat.blt n x.1)

/-- the names that an operation changes -/
def wrOf : Plan U → List Nat
  | .done _ _ wr _ => wr.map (·.1)
  | .call _ _ look | .yield _ _ _ _ _ look => look
  | .bad | .any .. => []
/-- the names that an operation looks at or changes -/
def lookOf : Plan U → List Nat
  | .done _ rd wr _ => rd ++ wr.map (·.1)
  | .call _ _ look | .yield _ _ _ _ _ look => look
  | .any _ rd _ => rd
  | .bad => []
def outs (b : Nat) : List Nat → Bool
  | [] => true
  | n :: l => (Nat.blt n b || Nat.ble (b + 100) n) && outs b l
/-- an operation that has been run ahead: its place, itself, the names that it looks at, those that it changes -/
structure Ahead where
  i : Nat
  o : Oper
  look : List Nat
  wr : List Nat
/-- an operation and those that have been run ahead do not meet, but for those that it waits for -/
def clear (ops : List Oper) (b : Nat) (bef : List Nat) (o : Oper) (look wr : List Nat) : List Ahead → Bool
  | [] => true
  | q :: l => (memN q.i bef || (apartT ops q.o o && (apartN wr q.look && (apartN look q.wr && outs b q.look)))) && clear ops b bef o look wr l

/-- one operation, where the order is open -/
def vopD (T : Tab U) (ops : List Oper) (bef : List (List Nat)) (i : Nat) (o : Oper) (acc : List Ahead) (s : S U) (K : List Ahead → S U → Prop) : Prop :=
  let p := plan E (s.nm i) o s
  cond (clear ops (s.nm i) (befOf bef i) o (lookOf p) (wrOf p) acc)
    (vop E T i o s (K (cond (soft o) (acc ++ [⟨i, o, lookOf p, wrOf p⟩]) acc))) False
/-- and one that is not wanted -/
def vskip (ops : List Oper) (bef : List (List Nat)) (i : Nat) (o : Oper) (acc : List Ahead) (s : S U) (K : List Ahead → S U → Prop) : Prop :=
  cond (clear ops (s.nm i) (befOf bef i) o [] [] acc) (K (acc ++ [⟨i, o, [], []⟩]) (s.put [] o.dst (.tup []))) False

def vdraw (T : Tab U) (ops : List Oper) (bef : List (List Nat)) : List (Nat × Oper) → List Ahead → S U → (S U → Prop) → Prop
  | [], _, s, K => K s
  | (i, o) :: r, acc, s, K => match o.guard with
    | .none => vopD E T ops bef i o acc s fun acc' s' => vdraw T ops bef r acc' s' K
    | some (_, want) => match guardTmp ops o with
      | some d => match s.t d with
        | .bool c => cond c
            (cond want (vopD E T ops bef i o acc (s.put [] (some d) (.bool true)) fun acc' s' => vdraw T ops bef r acc' s' K)
              (vskip ops bef i o acc (s.put [] (some d) (.bool true)) fun acc' s' => vdraw T ops bef r acc' s' K))
            (cond want (vskip ops bef i o acc (s.put [] (some d) (.bool false)) fun acc' s' => vdraw T ops bef r acc' s' K)
              (vopD E T ops bef i o acc (s.put [] (some d) (.bool false)) fun acc' s' => vdraw T ops bef r acc' s' K))
        | .tup [] => vskip ops bef i o acc s fun acc' s' => vdraw T ops bef r acc' s' K
        | _ => False
      | .none => False

def vregion (T : Tab U) (ops : Array Oper) (draw : Bool) (s : S U) (K : S U → Prop) : Prop :=
  let l := ops.toList
  let n := l.length
  cond draw
    (let o := sched (enum 0 l) n []
     cond (Nat.beq o.length n) (vdraw E T l (befores l []) o [] s fun s' => K { s' with nx := s.nm n }) False)
    (vops E T l (enum 0 l) s fun s' => K { s' with nx := s.nm n })

-- the places where a body is cut
def cutOf (f : FuncId) (id : Nat) : List (FuncId × Nat × List Nat) → Option (List Nat)
  | [] => .none
  | (g, i, l) :: r => cond (Nat.beq f g && Nat.beq i id) (some l) (cutOf f id r)

def untup : A U → A U
  | .tup _ => .none
  | a => a
/-- the state at a cut, laid out: the temporaries that live, the objects that they reach -/
def lay (s : S U) (live : List Nat) : Option (List (A U) × List (AObj U)) :=
  match layG s.h s.nx (upto s.nb) (live.map fun d => untup (s.t d)) with
  | some x => some (x.vals, x.objs)
  | .none => .none
def nthO (l : List (AObj U)) (k : Nat) : AObj U := match l, k with
  | [], _ => .dead
  | a :: _, 0 => a
  | _ :: l, k + 1 => nthO l k
def pairUp (live : List Nat) (vals : List (A U)) : Nat → A U := match live, vals with
  | d :: l, v :: r => fun n => cond (Nat.beq n d) v (pairUp l r n)
  | _, _ => fun _ => .none
/-- and the state that begins there -/
def S.ofLay (live : List Nat) (nb : Nat) (vals : List (A U)) (objs : List (AObj U)) : S U :=
  { t := pairUp live vals, h := nthO objs, nx := objs.length, nb := nb }

-- the end of a body
mutual
def outA (h : Nat → AObj U) (L cnt : List Nat) : A U → A U
  | .own m => match h m with
    | .lst c l => cond (Nat.beq (countN m cnt) 1) (.usl c l) (.ro false c l)
    | .fz c l => .ro false c l
    | _ => .none
  | .sub .. => .none
  | .bsl .. => .none
  | .nils c => .usl c []
  | .clip b c l => .ro b c l
  | .ptr n p => .ptr (idxN n L) p
  | .agg l => .agg (outAs h L cnt l)
  | .tup l => .tup (outAs h L cnt l)
  | .clo f l => cond (ownss l).isEmpty (.clo f (outAs h L cnt l)) .none
  | .usl .. => .none
  | a => a
def outAs (h : Nat → AObj U) (L cnt : List Nat) : List (A U) → List (A U)
  | [] => []
  | a :: l => outA h L cnt a :: outAs h L cnt l
end
def resV (s : S U) : List ResultVar → List (A U)
  | [] => []
  | .tmp d :: l => s.t d :: resV s l
  | .cell d t :: l => (match s.t d with
    | .ptr n p => let v := getO E (s.h n) p; cond (fits E t v) v .none
    | _ => .none) :: resV s l
def one : List (A U) → A U
  | [a] => a
  | l => .tup l
mutual
def holeT : A U → Bool
  | .tup l => holes l
  | a => hole a
end
def anyTup : List (A U) → Bool
  | [] => false
  | .tup _ :: _ => true
  | _ :: l => anyTup l
def vret (f : FuncId) (res : Array ResultVar) (s : S U) (K : A U → List (AObj U) → Prop) : Prop :=
  cond (memN f E.procs)
    (let l := resV E s res.toList
     cond (l.all known) (match layG s.h s.nx (upto s.nb) l with
      | some x => K (one x.vals) x.objs
      | .none => False) False)
    (let r := one (resV E s res.toList)
     let r' := outA s.h [] (owns r) r
     cond (!holeT r' && ((ptrs r).isEmpty && !anyTup (resV E s res.toList))) (K r' []) False)

/-- the end of a round -/
def vend (j : Nat) (s : S U) (K : A U → List (AObj U) → Prop) : Prop :=
  match layG s.h s.nx (upto s.nb) [] with
  | some x => K (.clo j []) x.objs
  | .none => False
def loopOf (f : FuncId) (id : Nat) : List (FuncId × Nat × List Nat) → Option (List Nat)
  | [] => .none
  | (g, i, l) :: r => cond (Nat.beq f g && Nat.beq i id) (some l) (loopOf f id r)
/-- the first region of a text -/
def firstId : Code → Option Nat
  | .region id _ _ => some id
  | .seq a b | .cond _ a b => match firstId a with | some i => some i | .none => firstId b
  | .block _ c | .loop c | .scope c => firstId c
  | _ => .none
def lid (a b : Code) : Nat := match firstId a with
  | some i => i
  | .none => match firstId b with | some i => i | .none => 0
def hasBegin : List Item → Bool
  | [] => false
  | .beginRound :: _ => true
  | _ :: k => hasBegin k
/-- a range over a function: its record is named, the function is called -/
def vrange (T : Tab U) (f : FuncId) (g : Operand) (a b : Code) (s : S U) (K : Nat → S U → Prop) : Prop :=
  match s.ev E 0 g with
  | .clo gf caps => cond (memN gf E.procs && Nat.blt gf 1000000) (match loopOf f (lid a b) E.loops with
    | some live =>
      callP T (s.nx + 1) { s with h := upd s.h s.nx (.lp f (lid a b) live (live.map fun d => untup (s.t d)) 0), nx := s.nx + 1 } .none gf (.yld s.nx :: caps) fun s' =>
        match s'.h s.nx with
        | .lp _ _ _ _ st => K st { s' with h := upd s'.h s.nx .dead, nx := s.nx + 101 }
        | _ => False
    | .none => False) False
  | _ => False

/-- the way on, from what is left to do; 'rd': in a round -/
def vgo (T : Tab U) (C : Cut U) (f : FuncId) (res : Array ResultVar) (K : A U → List (AObj U) → Prop) (rd : Bool) : (fuel : Nat) → Bool → List Item → S U → Prop
  | 0, _, _, _ => False
  | n + 1, st, todo, s => match todo with
    | [] => cond rd (vend 0 s K) (vret E f res s K)
    | .inBlock _ :: k => vgo T C f res K rd n false k s
    | .inScope _ :: k => vgo T C f res K rd n false k s
    | .inLoop c :: k => vgo T C f res K rd n false (.code c :: .inLoop c :: k) s
    | .beginRound :: k => cond (rd && !hasBegin k) (vgo T C f res K rd n false k s) False
    | .code c :: k => match c with
      | .skip => vgo T C f res K rd n false k s
      | .label _ => vgo T C f res K rd n false k s
      | .scope c => vgo T C f res K rd n st (.code c :: .inScope c :: k) s
      | .seq a b => vgo T C f res K rd n st (.code a :: .code b :: k) s
      | .cond c x y => match s.ev E 0 c with
        | .bool b => cond b (vgo T C f res K rd n false (.code x :: k) s) (vgo T C f res K rd n false (.code y :: k) s)
        | _ => False
      | .block id c => vgo T C f res K rd n st (.code c :: .inBlock id :: k) s
      | .loop c => vgo T C f res K rd n st (.code c :: .inLoop c :: k) s
      | .exit id => match exitTo id k with
        | some k' => cond (hasBegin k == hasBegin k') (vgo T C f res K rd n false k' s) False
        | .none => cond rd (vend (id + 2) s K) False
      | .ret => cond rd (vend 1 s K) (vret E f res s K)
      | .region id ops draw => match st, cutOf f id E.cuts with
        | false, some live => match lay s live with | some x => C f id s.nb x.1 x.2 K | .none => False
        | _, _ => vregion E T ops draw s fun s' => vgo T C f res K rd n false k s'
      | .rangeFunc g ps a b => vrange E T f g a b s fun j s' => match j with
        | 0 => vgo T C f res K rd n false k s'
        | 1 => vgo T C f res K rd n false (.code .ret :: k) s'
        | j + 2 => vgo T C f res K rd n false (.code (.exit j) :: k) s'
      | _ => False
    | _ => False

/-- where a loop over a function stands -/
def lkey (a b : Code) : Nat := 1000000 + lid a b
/-- where a region stands: what is to do from it on -/
def ctxs : Code → List Item → List (Nat × List Item)
  | .region id ops d, k => [(id, .code (.region id ops d) :: k)]
  | .seq a b, k => ctxs a (.code b :: k) ++ ctxs b k
  | .cond _ x y, k => ctxs x k ++ ctxs y k
  | .block i c, k => ctxs c (.inBlock i :: k)
  | .scope c, k => ctxs c (.inScope c :: k)
  | .loop c, k => ctxs c (.inLoop c :: k)
  | .rangeFunc g ps a b, k => [(lkey a b, .code (.rangeFunc g ps a b) :: k)]
  | _, _ => []
/-- the rounds of a text -/
def rnds : Code → List (Code × Code)
  | .seq a b | .cond _ a b => rnds a ++ rnds b
  | .block _ c | .loop c | .scope c => rnds c
  | .rangeFunc _ _ a b => (a, b) :: (rnds a ++ rnds b)
  | _ => []
def roundT (a b : Code) : List Item := [.code a, .beginRound, .code b]
def roundC : List (Code × Code) → List (Nat × List Item)
  | [] => []
  | (a, b) :: l => ctxs a [.beginRound, .code b] ++ (ctxs b [] ++ roundC l)
def ctxOf (id : Nat) : List (Nat × List Item) → List Item
  | [] => []
  | (i, k) :: l => cond (Nat.beq i id) k (ctxOf id l)
def statC : Code → Bool
  | .region _ ops d => cond d (stat ops.toList) true
  | .seq a b => statC a && statC b
  | .cond _ x y => statC x && statC y
  | .block _ c => statC c
  | .scope c => statC c
  | .loop c => statC c
  | .rangeFunc _ _ a b => statC a && statC b
  | _ => true
def bodyOf (P : Program) (f : FuncId) : Code := match P.funcs[f]? with
  | some fn => match fn.body with | some c => c | .none => .skip
  | .none => .skip
def resOf (P : Program) (f : FuncId) : Array ResultVar := match P.funcs[f]? with
  | some fn => fn.results
  | .none => #[]

/-- a function's beginning -/
def S.enter (args : List (A U)) (objs : List (AObj U)) : S U :=
  { t := nth args, h := nthO objs, nx := objs.length, nb := objs.length }
def fuel : Nat := 100000
def vfunc (T : Tab U) (C : Cut U) (f : FuncId) : Fn U := fun args objs K =>
  vgo E T C f (resOf E.P f) K false fuel false [.code (bodyOf E.P f)] (S.enter args objs)
/-- what is to do at a place of a body; in a round or not -/
def ctxAll (id : Nat) (c : Code) : List Item := ctxOf id (ctxs c [] ++ roundC (rnds c))
def inRd (id : Nat) (c : Code) : Bool := memN id ((roundC (rnds c)).map (·.1))
def vcut (T : Tab U) (C : Cut U) (f : FuncId) (id : Nat) (live : List Nat) : Nat → List (A U) → List (AObj U) → (A U → List (AObj U) → Prop) → Prop := fun nb vals objs K =>
  vgo E T C f (resOf E.P f) K (inRd id (bodyOf E.P f)) fuel true (ctxAll id (bodyOf E.P f)) (S.ofLay live nb vals objs)
def vround (T : Tab U) (C : Cut U) (f : FuncId) (id : Nat) : Fn U := fun args objs K =>
  match ctxAll (1000000 + id) (bodyOf E.P f), loopOf f id E.loops with
  | .code (.rangeFunc _ ps a b) :: _, some live => cond (Nat.beq args.length (ps.toList.length + live.length) && distinctN (ps.toList ++ live)) (vgo E T C f (resOf E.P f) K true fuel false (roundT a b) (S.ofLay (ps.toList ++ live) objs.length args objs)) False
  | _, _ => False
end
end Go.V
