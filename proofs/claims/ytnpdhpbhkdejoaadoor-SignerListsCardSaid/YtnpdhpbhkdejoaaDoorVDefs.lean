/- V: an abstract reading of the model's code, by values: what each operation asks and gives, as a predicate of what is done next. -/
import Derived.Calls
import Derived.KernelRfl
set_option linter.unusedVariables false
namespace Go.V

/-- a step of a way into a value: a field (its place, its offset in cells), an array's element (its place, an element's cells, how many), a list's element -/
inductive Step where
  | fld (k off : Nat)
  | idx (i e n : Nat)
  | elt (i e : Nat)

/-- abstract values; 'U c' is the Lean type of the elements of Go type c -/
inductive A (U : Nat → Type) : Type where
  | none
  | int (k : IntKind) (n : Int)
  | bool (b : Bool)
  | str (s : ByteArray)
  | nilp
  | nilf
  | agg (l : List (A U))
  | arr (c n : Nat) (l : List (U c))
  | nils (c : Nat)
  | ro (b : Bool) (c : Nat) (l : List (U c))
  | clip (b : Bool) (c : Nat) (l : List (U c))
  | usl (c : Nat) (l : List (U c))
  | own (n : Nat)
  | sub (n c i len : Nat)
  | bsl (n : Nat) (p : List Step) (c N i len : Nat)
  | ptr (n : Nat) (p : List Step)
  | rp (b : Bool) (c : Nat) (l : List (U c)) (i : Nat) (p : List Step)
  | clo (f : FuncId) (caps : List (A U))
  | yld (n : Nat)
  | tup (l : List (A U))

/-- what a name stands for -/
inductive AObj (U : Nat → Type) : Type where
  | dead
  | box (a : A U)
  | lst (c : Nat) (l : List (U c))
  | fz (c : Nat) (l : List (U c))
  /-- a loop over a function, of f: its name, the temporaries that live in its rounds, what they hold, how its last round was left -/
  | lp (f : FuncId) (id : Nat) (live : List Nat) (vals : List (A U)) (st : Nat)

inductive Ty where
  | no | int (k : IntKind) | bool | str | ptr (e : TypeId) | func | sl (e : TypeId) | arr (n : Nat) (e : TypeId) | st (fs : List (TypeId × Nat))

def isNo : Ty → Bool
  | .no => true
  | _ => false

structure Row where
  t : TypeId
  ty : Ty
  sz : Nat
  by' : Nat

structure Env (U : Nat → Type) where
  P : Program
  tys : List Row
  enc : (c : Nat) → U c → A U
  dec : (c : Nat) → A U → Option (U c)
  dflt : (c : Nat) → U c
  eqb : (c : Nat) → List (U c) → List (U c) → Bool
  ofBytes : (c : Nat) → ByteArray → Option (List (U c))
  toBytes : (c : Nat) → List (U c) → Option ByteArray
  cuts : List (FuncId × Nat × List Nat)
  procs : List FuncId
  loops : List (FuncId × Nat × List Nat)
  /-- the types whose values are compared whole: arrays, structs -/
  eqs : List TypeId
  /-- package variables that are never written: a pointer to what they hold -/
  glob : Nat → A U
  /-- functions, called by names, that are lent their slices for good -/
  lends : List FuncId

section
variable {U : Nat → Type}

def rowOf (t : TypeId) : List Row → Option Row
  | [] => .none
  | r :: l => cond (Nat.beq r.t t) (some r) (rowOf t l)
def Env.ty (E : Env U) (t : TypeId) : Ty := match rowOf t E.tys with | some r => r.ty | .none => .no
def Env.sz (E : Env U) (t : TypeId) : Nat := match rowOf t E.tys with | some r => r.sz | .none => 0
def Env.by' (E : Env U) (t : TypeId) : Nat := match rowOf t E.tys with | some r => r.by' | .none => 0

mutual
def size (sz : Nat → Nat) : A U → Nat
  | .agg l => sizes sz l
  | .arr c n _ => n * sz c
  | _ => 1
def sizes (sz : Nat → Nat) : List (A U) → Nat
  | [] => 0
  | a :: l => size sz a + sizes sz l
end

def isAgg : A U → Bool
  | .agg _ | .arr .. => true
  | _ => false
/-- a value of one variable: no tuple, and known -/
def known : A U → Bool
  | .none | .tup _ | .usl .. => false
  | _ => true

structure S (U : Nat → Type) where
  t : Nat → A U
  h : Nat → AObj U
  nx : Nat
  nb : Nat

def upd {α : Type} (f : Nat → α) (n : Nat) (x : α) : Nat → α := fun m => cond (Nat.beq m n) x (f m)
def upds {α : Type} (f : Nat → α) : List (Nat × α) → Nat → α
  | [] => f
  | (n, x) :: l => upds (upd f n x) l
def S.put (s : S U) (wr : List (Nat × AObj U)) (d : Option Nat) (v : A U) : S U :=
  { t := match d with | some d => upd s.t d v | .none => s.t, h := upds s.h wr, nx := s.nx, nb := s.nb }

def memN (n : Nat) : List Nat → Bool
  | [] => false
  | m :: l => Nat.beq m n || memN n l

variable (E : Env U)

/-- is a type's value a row of cells? -/
def rowTy : Ty → Bool
  | .arr .. | .st _ => true
  | _ => false
/-- a value that may be a variable's of a type -/
def fits (t : TypeId) (v : A U) : Bool := known v && (Nat.beq (size E.sz v) (E.sz t) && ((isAgg v == rowTy (E.ty t)) && !isNo (E.ty t)))

/-- is a type that of slices of such elements? -/
def slOf (t c : Nat) : Bool := match E.ty t with | .sl e => Nat.beq e c && (!isNo (E.ty e) && !Nat.beq (E.by' e) 0) | _ => false

def nth (l : List (A U)) (k : Nat) : A U := match l, k with
  | [], _ => .none
  | a :: _, 0 => a
  | _ :: l, k + 1 => nth l k

def getP : A U → List Step → A U
  | a, [] => a
  | .agg l, .fld k off :: p => cond (Nat.beq (sizes E.sz (l.take k)) off) (getP (nth l k) p) .none
  | .arr c n l, .idx i e m :: p => cond (Nat.beq (E.sz c) e && Nat.beq n m) (getP (E.enc c (l.getD i (E.dflt c))) p) .none
  | _, _ => .none
def setP : A U → List Step → A U → Option (A U)
  | a, [], v => cond (Nat.beq (size E.sz a) (size E.sz v) && (known v && (isAgg a == isAgg v))) (some v) .none
  | .agg l, .fld k off :: p, v => cond (Nat.beq (sizes E.sz (l.take k)) off && Nat.blt k l.length)
      (match setP (nth l k) p v with | some x => some (.agg (l.set k x)) | .none => .none) .none
  | .arr c n l, .idx i e m :: p, v => cond (Nat.beq (E.sz c) e && Nat.beq n m)
      (match setP (E.enc c (l.getD i (E.dflt c))) p v with
       | some x => (match E.dec c x with | some y => some (.arr c n (l.set i y)) | .none => .none) | .none => .none) .none
  | _, _, _ => .none
def getO : AObj U → List Step → A U
  | .box a, p => getP E a p
  | .lst c l, .elt i e :: p | .fz c l, .elt i e :: p => cond (Nat.beq (E.sz c) e) (getP E (E.enc c (l.getD i (E.dflt c))) p) .none
  | _, _ => .none
def setO : AObj U → List Step → A U → Option (AObj U)
  | .box a, p, v => match setP E a p v with | some x => some (.box x) | .none => .none
  | .lst c l, .elt i e :: p, v => cond (Nat.beq (E.sz c) e)
      (match setP E (E.enc c (l.getD i (E.dflt c))) p v with
       | some x => (match E.dec c x with | some y => some (.lst c (l.set i y)) | .none => .none) | .none => .none) .none
  | _, _, _ => .none

def cut {α : Type} (l : List α) (i len : Nat) : List α := (l.drop i).take len

/-- what a slice holds, and the names that are looked at for it -/
structure Cont (U : Nat → Type) where
  rd : List Nat
  c : Nat
  l : List (U c)
def content (h : Nat → AObj U) : A U → Option (Cont U)
  | .nils c => some ⟨[], c, []⟩
  | .ro _ c l | .clip _ c l => some ⟨[], c, l⟩
  | .own m => match h m with
    | .lst c l | .fz c l => some ⟨[m], c, l⟩
    | _ => .none
  | .sub m c' i len => match h m with
    | .lst c l | .fz c l => cond (Nat.beq c c') (some ⟨[m], c, cut l i len⟩) .none
    | _ => .none
  | .bsl m p c N i len => match h m with
    | .box a => (match getP E a p with | .arr c' N' l => cond (Nat.beq c c' && Nat.beq N N') (some ⟨[m], c', cut l i len⟩) .none | _ => .none)
    | _ => .none
  | _ => .none

mutual
def hole : A U → Bool
  | .none => true
  | .agg l | .clo _ l => holes l
  | _ => false
def holes : List (A U) → Bool
  | [] => false
  | a :: l => hole a || holes l
end
mutual
/-- a value that is laid into a list for good: its own lists are changed no more -/
def frz (h : Nat → AObj U) : A U → A U
  | .agg l => .agg (frzs h l)
  | .nils c => .ro false c []
  | .clip false c l => .ro false c l
  | .own m => match h m with
    | .lst c l | .fz c l => .ro false c l
    | _ => .none
  | a => a
def frzs (h : Nat → AObj U) : List (A U) → List (A U)
  | [] => []
  | a :: l => frz h a :: frzs h l
end
mutual
def frzN (h : Nat → AObj U) : A U → List (Nat × AObj U)
  | .agg l => frzNs h l
  | .own m => match h m with
    | .lst c l | .fz c l => [(m, .fz c l)]
    | _ => []
  | _ => []
def frzNs (h : Nat → AObj U) : List (A U) → List (Nat × AObj U)
  | [] => []
  | a :: l => frzN h a ++ frzNs h l
end

def zeroA : Nat → TypeId → A U
  | 0, _ => .none
  | n + 1, t => match E.ty t with
    | .int k => .int k 0
    | .bool => .bool false
    | .str => .str .empty
    | .ptr _ => .nilp
    | .func => .nilf
    | .sl e => .nils e
    | .arr m e => .arr e m (List.replicate m (E.dflt e))
    | .st fs => .agg (fs.map fun f => zeroA n f.1)
    | .no => .none
def zero (t : TypeId) : A U := zeroA E 20 t

def constA (t : TypeId) : Value → A U
  | .int k n => .int k n
  | .bool b => .bool b
  | .string s => .str s
  | .pointer .none => .nilp
  | .nilFunc => .nilf
  | .slice .none 0 0 => match E.ty t with | .sl e => .nils e | _ => .none
  | _ => .none
def S.ev (s : S U) (t : TypeId) : Operand → A U
  | .tmp d => s.t d
  | .const v => constA E t v
  | .func f => .clo f []
  | .global g => E.glob g

def addN (l : List Nat) (n : Nat) : List Nat := cond (memN n l) l (l ++ [n])
def addNs (l : List Nat) : List Nat → List Nat
  | [] => l
  | n :: r => addNs (addN l n) r
def idxN (n : Nat) : List Nat → Nat
  | [] => 0
  | m :: l => cond (Nat.beq m n) 0 (idxN n l + 1)
def countN (n : Nat) : List Nat → Nat
  | [] => 0
  | m :: l => cond (Nat.beq m n) (countN n l + 1) (countN n l)
def nthN (l : List Nat) (k : Nat) (d : Nat) : Nat := match l, k with
  | [], _ => d
  | a :: _, 0 => a
  | _ :: l, k + 1 => nthN l k d
def distinctN : List Nat → Bool
  | [] => true
  | n :: l => !memN n l && distinctN l
def upto : Nat → List Nat
  | 0 => []
  | n + 1 => upto n ++ [n]

mutual
/-- the lists that a value names -/
def owns : A U → List Nat
  | .own n | .sub n .. => [n]
  | .agg l | .tup l | .clo _ l => ownss l
  | _ => []
def ownss : List (A U) → List Nat
  | [] => []
  | a :: l => owns a ++ ownss l
end
def objA : AObj U → A U
  | .box a => a
  | .lp _ _ _ vals _ => .tup vals
  | _ => .none

/-- all boxes that are reached, breadth first; the first ones are given -/
def reach (nm : A U → List Nat) (h : Nat → AObj U) : (fuel j : Nat) → List Nat → List Nat
  | 0, _, l => l
  | n + 1, j, l => match l.drop j with
    | [] => l
    | m :: _ => reach nm h n (j + 1) (addNs l (nm (objA (h m))))

mutual
/-- nil slices get names -/
def denil : A U → Nat → A U × (List (Nat × AObj U) × Nat)
  | .nils c, n => (.own n, ([(n, .lst c [])], n + 1))
  | .agg l, n => let r := denils l n; (.agg r.1, r.2)
  | a, n => (a, ([], n))
def denils : List (A U) → Nat → List (A U) × (List (Nat × AObj U) × Nat)
  | [], n => ([], ([], n))
  | a :: l, n =>
    let r := denil a n
    let q := denils l r.2.2
    (r.1 :: q.1, (r.2.1 ++ q.2.1, q.2.2))
end
mutual
/-- names, renumbered by their places in a list -/
def renA (L : List Nat) : A U → A U
  | .own n => .own (idxN n L)
  | .sub n c i len => .sub (idxN n L) c i len
  | .bsl n p c N i len => .bsl (idxN n L) p c N i len
  | .ptr n p => .ptr (idxN n L) p
  | .yld n => .yld (idxN n L)
  | .agg l => .agg (renAs L l)
  | .tup l => .tup (renAs L l)
  | .clo f l => .clo f (renAs L l)
  | a => a
def renAs (L : List Nat) : List (A U) → List (A U)
  | [] => []
  | a :: l => renA L a :: renAs L l
end
def renO (L : List Nat) : AObj U → AObj U
  | .box a => .box (renA L a)
  | .lp f id live vals st => .lp f id live (renAs L vals) st
  | o => o
mutual
/-- all names of a value -/
def names : A U → List Nat
  | .ptr n _ | .own n | .sub n .. | .bsl n .. | .yld n => [n]
  | .agg l | .tup l | .clo _ l => namess l
  | _ => []
def namess : List (A U) → List Nat
  | [] => []
  | a :: l => names a ++ namess l
end
def denilB (h : Nat → AObj U) : List Nat → Nat → List (Nat × AObj U) × Nat
  | [], n => ([], n)
  | m :: l, n => match h m with
    | .box a =>
      let r := denil a n
      let q := denilB h l r.2.2
      (r.2.1 ++ (m, .box r.1) :: q.1, q.2)
    | _ => denilB h l n

def inN (L : List Nat) : List Nat → Bool
  | [] => true
  | n :: l => memN n L && inN L l
def closedN (h : Nat → AObj U) (L : List Nat) : List Nat → Bool
  | [] => true
  | n :: l => inN L (names (objA (h n))) && closedN h L l

/-- what is laid out: values, objects, the names that they had (before and behind the naming of nil slices), what was named, the next name -/
structure Laid (U : Nat → Type) where
  vals : List (A U)
  objs : List (AObj U)
  L1 : List Nat
  L : List Nat
  wr : List (Nat × AObj U)
  n : Nat
/-- values and all that they reach, laid out; 'first': names that come first -/
def layG (h : Nat → AObj U) (n0 : Nat) (first : List Nat) (vs : List (A U)) : Option (Laid U) :=
  let r := denils vs n0
  let h1 := upds h r.2.1
  let L1 := reach names h1 60 0 (addNs first (namess r.1))
  let q := denilB h1 L1 r.2.2
  let h2 := upds h1 q.1
  let L := reach names h2 60 0 (addNs first (namess r.1))
  cond (distinctN L1 && (distinctN L && (inN L (namess r.1) && closedN h2 L L))) (some ⟨renAs L r.1, L.map fun n => renO L (h2 n), L1, L, r.2.1 ++ q.1, q.2⟩) .none

inductive Plan (U : Nat → Type) where
  | bad
  | done (pre : Option Prop) (rd : List Nat) (wr : List (Nat × AObj U)) (v : A U)
  | call (f : FuncId) (args : List (A U)) (look : List Nat)
  | yield (n : Nat) (f : FuncId) (id : Nat) (vals args : List (A U)) (look : List Nat)
  /-- yes or no: if yes, then q -/
  | any (q : Prop) (rd : List Nat) (neg : Bool)

-- numbers
def iand (k : IntKind) (x y : Int) : Int := k.wrap ((BitVec.ofInt k.bits x &&& BitVec.ofInt k.bits y).toNat)
def ior (k : IntKind) (x y : Int) : Int := k.wrap ((BitVec.ofInt k.bits x ||| BitVec.ofInt k.bits y).toNat)
def ixor (k : IntKind) (x y : Int) : Int := k.wrap ((BitVec.ofInt k.bits x ^^^ BitVec.ofInt k.bits y).toNat)
def iandn (k : IntKind) (x y : Int) : Int := k.wrap ((BitVec.ofInt k.bits x &&& ~~~BitVec.ofInt k.bits y).toNat)
def ishl (k : IntKind) (x y : Int) : Int := k.wrap (x * 2 ^ (min y.toNat k.bits))
def ishr (k : IntKind) (x y : Int) : Int := x.fdiv (2 ^ (min y.toNat k.bits))
def seq (s t : ByteArray) : Bool := decide (s = t)
def slt (s t : ByteArray) : Bool := Op.bytesLess s.toList t.toList

def intOp (op : BinOp) (k : IntKind) (x y : Int) : Option (Option Prop × A U) := match op with
  | .add => some (.none, .int k (k.wrap (x + y)))
  | .sub => some (.none, .int k (k.wrap (x - y)))
  | .mul => some (.none, .int k (k.wrap (x * y)))
  | .quo => some (some (y ≠ 0), .int k (k.wrap (x.tdiv y)))
  | .rem => some (some (y ≠ 0), .int k (x.tmod y))
  | .and => some (.none, .int k (iand k x y))
  | .or => some (.none, .int k (ior k x y))
  | .xor => some (.none, .int k (ixor k x y))
  | .andNot => some (.none, .int k (iandn k x y))
  | .eql => some (.none, .bool (decide (x = y)))
  | .neq => some (.none, .bool (!decide (x = y)))
  | .lss => some (.none, .bool (decide (x < y)))
  | .leq => some (.none, .bool (decide (x ≤ y)))
  | .gtr => some (.none, .bool (decide (y < x)))
  | .geq => some (.none, .bool (decide (y ≤ x)))
  | _ => .none
def maxStr : Nat := 140737488355328
def strOp (op : BinOp) (x y : ByteArray) : Option (Option Prop × A U) := match op with
  | .add => some (some (x.size + y.size ≤ maxStr), .str (x ++ y))
  | .eql => some (.none, .bool (seq x y))
  | .neq => some (.none, .bool (!seq x y))
  | .lss => some (.none, .bool (slt x y))
  | .leq => some (.none, .bool (slt x y || seq x y))
  | .gtr => some (.none, .bool (!(slt x y || seq x y)))
  | .geq => some (.none, .bool (!slt x y))
  | _ => .none

def plainTy : Ty → Bool
  | .int _ | .bool | .str => true
  | _ => false
def eqFs (E : Env U) (q : TypeId → A U → A U → Option Bool) : List (TypeId × Nat) → List (A U) → List (A U) → Nat → Option Bool
  | [], [], [], _ => some true
  | (t, off) :: fs, a :: l, b :: m, k => cond (Nat.beq off k && (fits E t a && fits E t b)) (match q t a b, eqFs E q fs l m (k + size E.sz a) with
    | some x, some y => some (x && y)
    | _, _ => .none) .none
  | _, _, _, _ => .none
/-- are two values of a type the same? -/
def eqV (E : Env U) : Nat → TypeId → A U → A U → Option Bool
  | 0, _, _, _ => .none
  | m + 1, t, a, b => match E.ty t with
    | .int _ => (match a, b with | .int k n, .int k' n' => cond (decide (k = k')) (some (decide (n = n'))) .none | _, _ => .none)
    | .bool => (match a, b with | .bool x, .bool y => some (x == y) | _, _ => .none)
    | .str => (match a, b with | .str x, .str y => some (seq x y) | _, _ => .none)
    | .ptr _ => (match a, b with
      | .nilp, .nilp => some true
      | .nilp, .ptr .. | .ptr .., .nilp | .nilp, .rp .. | .rp .., .nilp => some false
      | _, _ => .none)
    | .arr n e => (match a, b with
      | .arr c n1 x, .arr c' n2 y => if h : c' = c then cond ((Nat.blt 0 m && memN t E.eqs) && ((Nat.beq c e && Nat.beq n1 n) && (Nat.beq n2 n && plainTy (E.ty e)))) (some (E.eqb c x (h ▸ y))) .none else .none
      | _, _ => .none)
    | .st fs => (match a, b with | .agg x, .agg y => cond (memN t E.eqs) (eqFs E (eqV E m) fs x y 0) .none | _, _ => .none)
    | _ => .none

/-- room for so many elements of a type -/
def room (n b : Nat) : Prop := n * b ≤ 140737488351232

/-- the table of a struct's fields fits its value -/
def fieldsFit (E : Env U) : List (TypeId × Nat) → List (A U) → Nat → Bool
  | [], [], _ => true
  | (t, off) :: fs, a :: l, k => Nat.beq off k && (!isNo (E.ty t) && (Nat.beq (E.sz t) (size E.sz a) && fieldsFit E fs l (k + size E.sz a)))
  | _, _, _ => false
def fieldTy (fs : List (TypeId × Nat)) (k : Nat) : TypeId := match fs[k]? with | some f => f.1 | .none => 0
def fieldAt (fs : List (TypeId × Nat)) (k : Nat) : Option (TypeId × Nat) := fs[k]?

def setParts (E : Env U) : List (A U) → List (Nat × A U) → Option (List (A U))
  | l, [] => some l
  | l, (k, v) :: r => cond (Nat.blt k l.length && (Nat.beq (size E.sz (nth l k)) (size E.sz v) && (known v && (isAgg (nth l k) == isAgg v)))) (setParts E (l.set k v) r) .none
def decs (E : Env U) (c : Nat) : List (A U) → Option (List (U c))
  | [] => some []
  | a :: l => match E.dec c a, decs E c l with
    | some x, some r => some (x :: r)
    | _, _ => .none

def isBsl : A U → Bool
  | .sub .. | .bsl .. => true
  | _ => false
def optI (d : Int) : Option (A U) → Option Int
  | .none => some d
  | some (.int _ n) => some n
  | _ => .none

/-- a slice of a slice: lo ≤ hi ≤ n, and what is taken -/
def sliceV (s : S U) (t : TypeId) (x : A U) (lo hi mx : Option (A U)) : Plan U :=
  match x, mx with
  | .ro b c l, .none => cond (slOf E t c) (match lo, hi with
    | .none, .none => .done .none [] [] (.ro b c l)
    | some (.int _ i), .none => .done (some (0 ≤ i ∧ i ≤ (l.length : Int))) [] [] (.ro b c (l.drop i.toNat))
    | .none, some (.int _ j) => .done (some (0 ≤ j ∧ j ≤ (l.length : Int))) [] [] (.ro b c (l.take j.toNat))
    | some (.int _ i), some (.int _ j) => .done (some (0 ≤ i ∧ i ≤ j ∧ j ≤ (l.length : Int))) [] [] (.ro b c (cut l i.toNat (j - i).toNat))
    | _, _ => .bad) .bad
  | .ro b c l, some (.int _ m) => cond (slOf E t c) (match hi, optI 0 lo with
    | some (.int _ j), some i => .done (some (0 ≤ i ∧ i ≤ j ∧ j = m ∧ j ≤ (l.length : Int))) [] [] (.clip b c (cut l i.toNat (j - i).toNat))
    | _, _ => .bad) .bad
  | .rp b c l i p, .none => match E.ty t, lo, hi with
    | .arr n e, .none, .none => match getP E (E.enc c (l.getD i (E.dflt c))) p with
      | .arr e' n' r => cond (Nat.beq e e' && (Nat.beq n n' && !isNo (E.ty e))) (.done .none [] [] (.ro b e' r)) .bad
      | _ => .bad
    | _, _, _ => .bad
  | .own m, .none => match s.h m with
    | .lst c l | .fz c l => cond (slOf E t c) (match optI 0 lo, optI (l.length : Int) hi with
      | some i, some j => .done (some (0 ≤ i ∧ i ≤ j ∧ j ≤ (l.length : Int))) [m] [] (.sub m c i.toNat (j - i).toNat)
      | _, _ => .bad) .bad
    | _ => .bad
  | .sub m c k len, .none => match s.h m with
    | .lst c' l => cond (slOf E t c && Nat.beq c c') (match optI 0 lo, optI (len : Int) hi with
      | some i, some j => .done (some (0 ≤ i ∧ i ≤ j ∧ j ≤ (len : Int))) [m] [] (.sub m c (k + i.toNat) (j - i).toNat)
      | _, _ => .bad) .bad
    | _ => .bad
  | .ptr m p, .none => match E.ty t, s.h m, optI 0 lo with
    | .arr n e, .box _, some i => match optI (n : Int) hi with
      | some j => cond (isNo (E.ty e)) .bad (.done (some (0 ≤ i ∧ i ≤ j ∧ j ≤ (n : Int))) [m] [] (.bsl m p e n i.toNat (j - i).toNat))
      | .none => .bad
    | _, _, _ => .bad
  | _, _ => .bad

def bt (s : ByteArray) (i : Nat) : Int := ((s.data.getD i 0).toNat : Int)

def appendV (s : S U) (b : Nat) (tx ty : TypeId) (x y : A U) : Plan U :=
  match E.ty ty with
  | .sl _ => match content E s.h y with
    | some q => match x with
      | .nils c => cond (slOf E tx c) (if h : q.c = c then .done (some (room q.l.length (E.by' c))) q.rd [(b, .lst c (h ▸ q.l))] (.own b) else .bad) .bad
      | .clip _ c lx => cond (slOf E tx c) (if h : q.c = c then .done (some (room (lx.length + q.l.length) (E.by' c) ∧ (lx = [] ∨ q.l ≠ []))) q.rd [(b, .lst c (lx ++ h ▸ q.l))] (.own b) else .bad) .bad
      | .own m => match s.h m with
        | .lst c lx => cond (slOf E tx c) (if h : q.c = c then .done (some (room (lx.length + q.l.length) (E.by' c))) (m :: q.rd) [(m, .dead), (b, .lst c (lx ++ h ▸ q.l))] (.own b) else .bad) .bad
        | _ => .bad
      | _ => .bad
    | .none => .bad
  | _ => .bad

def splice {α : Type} (l : List α) (i : Nat) (src : List α) (n : Nat) : List α := l.take i ++ (src.take n ++ l.drop (i + n))

def lenV (s : S U) (t : TypeId) (x : A U) : Plan U :=
  match E.ty t with
  | .str => match x with
    | .str b => .done .none [] [] (.int .i64 (b.size : Int))
    | _ => .bad
  | .arr n _ => .done .none [] [] (.int .i64 (n : Int))
  | .sl _ => match x with
    | .sub _ _ _ n | .bsl _ _ _ _ _ n => .done .none [] [] (.int .i64 (n : Int))
    | .nils _ => .done .none [] [] (.int .i64 0)
    | .ro _ _ l | .clip _ _ l => .done .none [] [] (.int .i64 (l.length : Int))
    | .own m => match s.h m with
      | .lst _ l | .fz _ l => .done .none [m] [] (.int .i64 (l.length : Int))
      | _ => .bad
    | _ => .bad
  | _ => .bad

def bytesOf (l : List Int) : ByteArray := ⟨(l.map fun n => UInt8.ofNat n.toNat).toArray⟩
def bytesTo (s : ByteArray) : List Int := s.data.toList.map fun b => (b.toNat : Int)
def convV (s : S U) (b : Nat) (src dst : TypeId) (x : A U) : Plan U :=
  match E.ty dst, x with
  | .int k, .int _ n => .done .none [] [] (.int k (k.wrap n))
  | .str, .str t => .done .none [] [] (.str t)
  | .str, y => match content E s.h y with
    | some q => cond (slOf E src q.c) (match E.toBytes q.c q.l with | some t => .done .none q.rd [] (.str t) | .none => .bad) .bad
    | .none => .bad
  | .sl e, .str t => match E.ty src, E.ofBytes e t with
    | .str, some l => .done (some (t.size ≤ maxStr)) [] [(b, .lst e l)] (.own b)
    | _, _ => .bad
  | _, _ => .bad

/-- a slice of an array in a box is written over -/
def copyV (s : S U) (tx ty : TypeId) (x y : A U) : Plan U :=
  match E.ty ty, content E s.h y, x with
  | .sl _, some q, .bsl m p c n i len => match s.h m with
    | .box a => (match getP E a p with
      | .arr c' n' l => if h : q.c = c' then cond (slOf E tx c && (Nat.beq c c' && Nat.beq n n')) (match setP E a p (.arr c' n' (splice l i (h ▸ q.l) (Nat.min q.l.length len))) with
        | some a' => .done .none (m :: q.rd) [(m, .box a')] (.int .i64 ((Nat.min q.l.length len : Nat) : Int))
        | .none => .bad) .bad else .bad
      | _ => .bad)
    | _ => .bad
  | _, _, _ => .bad

def maxI (x y : Int) : Int := cond (decide (x < y)) y x
def minI (x y : Int) : Int := cond (decide (y < x)) y x
def foldJ (f : Int → Int → Int) (n : Int) : List (A U) → Option Int
  | [] => some n
  | .int _ m :: l => foldJ f (f n m) l
  | _ => .none
def foldI (f : Int → Int → Int) : List (A U) → Option (IntKind × Int)
  | .int k n :: l => match foldJ f n l with | some m => some (k, m) | .none => .none
  | _ => .none

def evArgs (s : S U) : List Operand → List TypeId → List (A U)
  | [], _ => []
  | x :: l, t :: ts => s.ev E t x :: evArgs s l ts
  | x :: l, [] => s.ev E 0 x :: evArgs s l []

/-- a value that is lent for good: what it holds is changed no more -/
def lend1 (h : Nat → AObj U) : A U → A U × List (Nat × AObj U)
  | .bsl m p c n i len => match content E h (.bsl m p c n i len) with
    | some q => (.ro false q.c q.l, [(m, .dead)])
    | .none => (.none, [])
  | a => (frz h a, frzN h a)
def lendAll (h : Nat → AObj U) : List (A U) → List (A U) × List (Nat × AObj U)
  | [] => ([], [])
  | a :: l =>
    let r := lend1 E h a
    let q := lendAll (upds h r.2) l
    (r.1 :: q.1, r.2 ++ q.2)

def callV (s : S U) (b : Nat) (c : Call) : Plan U :=
  let args := evArgs E s c.args.toList c.argTypes.toList
  match c.callee with
  | .builtin .len => match c.args.toList, c.argTypes.toList with | [x], t :: _ => lenV E s t (s.ev E t x) | _, _ => .bad
  | .builtin .copy => match c.args.toList, c.argTypes.toList with | [x, y], [t, u] => copyV E s t u (s.ev E t x) (s.ev E u y) | _, _ => .bad
  | .builtin .max => match foldI maxI args with | some (k, n) => .done .none [] [] (.int k n) | .none => .bad
  | .builtin .min => match foldI minI args with | some (k, n) => .done .none [] [] (.int k n) | .none => .bad
  | .builtin .append => match c.args.toList, c.argTypes.toList with | [x, y], [t, u] => appendV E s b t u (s.ev E t x) (s.ev E u y) | _, _ => .bad
  | .value f => match s.ev E 0 f with
    | .clo g caps => cond (memN g E.procs) (cond (memN g E.lends)
        (match layG (upds s.h (lendAll E s.h (args ++ caps)).2) b [] (lendAll E s.h (args ++ caps)).1 with | some x => .call g (args ++ caps) (namess (args ++ caps) ++ (x.L1 ++ x.L)) | .none => .bad)
        (match layG s.h b [] (args ++ caps) with | some x => .call g (args ++ caps) (x.L1 ++ x.L) | .none => .bad)) (.call g (args ++ caps) (ownss (args ++ caps)))
    | .yld n => match s.h n with
      | .lp g id _ vals 0 => (match layG s.h b [] (args ++ vals) with | some x => .yield n g id vals args (n :: (x.L1 ++ x.L)) | .none => .bad)
      | _ => .bad
    | _ => .bad
  | _ => .bad

def eqP (op : BinOp) : Option Bool → Plan U
  | some r => (match op with | .eql => .done .none [] [] (.bool r) | .neq => .done .none [] [] (.bool (!r)) | _ => .bad)
  | .none => .bad
/-- is a slice nil? -/
def nilV (s : S U) (op : BinOp) (t : TypeId) (u : A U) (c : Nat) (y : Operand) : Plan U :=
  match y with
  | .const (.slice .none 0 0) => cond (slOf E t c && !isBsl u) (match content E s.h u, op with
    | some q, .eql => .any (q.l = []) q.rd false
    | some q, .neq => .any (q.l = []) q.rd true
    | _, _ => .bad) .bad
  | _ => .bad

def plan (b : Nat) (o : Oper) (s : S U) : Plan U :=
  match o.op with
  | .move x | .assign x => .done .none [] [] (s.ev E o.type x)
  | .pick c x y => match s.ev E 0 c with
    | .bool c => .done .none [] [] (cond c (s.ev E o.type x) (s.ev E o.type y))
    | _ => .bad
  | .alloc t => match zero E t with
    | .none => .bad
    | z => .done .none [] [(b, .box z)] (.ptr b [])
  | .box t x => let v := s.ev E t x; cond (fits E t v) (.done .none [] [(b, .box v)] (.ptr b [])) .bad
  | .load t x => match s.ev E 0 x with
    | .ptr n p => let v := getO E (s.h n) p; cond (fits E t v) (.done .none [n] [] v) .bad
    | .rp _ c l i p => let v := getP E (E.enc c (l.getD i (E.dflt c))) p; cond (fits E t v) (.done .none [] [] v) .bad
    | _ => .bad
  | .store t x y => match s.ev E 0 x with
    | .ptr n p => match s.h n with
      | .box a => cond (fits E t (s.ev E t y)) (match setP E a p (s.ev E t y) with
        | some a' => .done .none [n] [(n, .box a')] .none
        | .none => .bad) .bad
      | .lst c l => cond ((fits E t (frz s.h (s.ev E t y)) && !hole (frz s.h (s.ev E t y))) && !memN n ((frzN s.h (s.ev E t y)).map (·.1))) (match setO E (.lst c l) p (frz s.h (s.ev E t y)) with
        | some o' => .done .none (n :: (frzN s.h (s.ev E t y)).map (·.1)) (frzN s.h (s.ev E t y) ++ [(n, o')]) .none
        | .none => .bad) .bad
      | _ => .bad
    | _ => .bad
  | .fieldAddr t x k => match s.ev E 0 x, E.ty t with
    | .ptr n p, .st fs => match fieldAt fs k with | some f => cond (Nat.beq (E.sz f.1) 0 || isNo (E.ty f.1)) .bad (.done .none [] [] (.ptr n (p ++ [.fld k f.2]))) | .none => .bad
    | .rp b c l i p, .st fs => match fieldAt fs k with | some f => cond (Nat.beq (E.sz f.1) 0 || isNo (E.ty f.1)) .bad (.done .none [] [] (.rp b c l i (p ++ [.fld k f.2]))) | .none => .bad
    | _, _ => .bad
  | .field t x k => match s.ev E 0 x, E.ty t with
    | .agg l, .st fs => match fieldAt fs k with
      | some f => let v := nth l k; cond (Nat.beq (sizes E.sz (l.take k)) f.2 && fits E f.1 v) (.done .none [] [] v) .bad
      | .none => .bad
    | _, _ => .bad
  | .indexAddr t x i => match s.ev E 0 i with
    | .int _ n => match s.ev E t x with
      | .own m => match s.h m with
        | .lst c l | .fz c l => cond (slOf E t c) (.done (some (0 ≤ n ∧ n < (l.length : Int))) [m] [] (.ptr m [.elt n.toNat (E.sz c)])) .bad
        | _ => .bad
      | .ro b c l | .clip b c l => cond (slOf E t c) (.done (some (0 ≤ n ∧ n < (l.length : Int))) [] [] (.rp b c l n.toNat [])) .bad
      | .sub m c i len => match s.h m with
        | .lst c' _ | .fz c' _ => cond (slOf E t c && Nat.beq c c') (.done (some (0 ≤ n ∧ n < (len : Int))) [m] [] (.ptr m [.elt (i + n.toNat) (E.sz c)])) .bad
        | _ => .bad
      | .bsl m p c N i len => cond (slOf E t c) (.done (some (0 ≤ n ∧ n < (len : Int))) [] [] (.ptr m (p ++ [.idx (i + n.toNat) (E.sz c) N]))) .bad
      | .ptr m p => match E.ty t with
        | .arr k e => cond (isNo (E.ty e)) .bad (.done (some (0 ≤ n ∧ n < (k : Int))) [] [] (.ptr m (p ++ [.idx n.toNat (E.sz e) k])))
        | _ => .bad
      | .rp b c l j p => match E.ty t with
        | .arr k e => cond (isNo (E.ty e)) .bad (.done (some (0 ≤ n ∧ n < (k : Int))) [] [] (.rp b c l j (p ++ [.idx n.toNat (E.sz e) k])))
        | _ => .bad
      | _ => .bad
    | _ => .bad
  | .index t x i => match s.ev E 0 i, s.ev E t x with
    | .int _ n, .arr c k l => match E.ty t with
      | .arr k' c' => cond (Nat.beq k k' && (Nat.beq c c' && fits E c (E.enc c (l.getD n.toNat (E.dflt c))))) (.done (some (0 ≤ n ∧ n < (k : Int))) [] [] (E.enc c (l.getD n.toNat (E.dflt c)))) .bad
      | _ => .bad
    | .int _ n, .str b => match E.ty t with
      | .str => .done (some (0 ≤ n ∧ n < (b.size : Int))) [] [] (.int .u8 (bt b n.toNat))
      | _ => .bad
    | _, _ => .bad
  | .binOp op t x y ty => match s.ev E t x, s.ev E ty y with
    | .int k a, .int k' c => (match op with
      | .shl => .done (some (0 ≤ c)) [] [] (.int k (ishl k a c))
      | .shr => .done (some (0 ≤ c)) [] [] (.int k (ishr k a c))
      | op => cond (decide (k = k')) (match intOp op k a c with | some (q, v) => .done q [] [] v | .none => .bad) .bad)
    | .str a, .str c => match strOp op a c with | some (q, v) => .done q [] [] v | .none => .bad
    | .bool a, .bool c => match E.ty t, op with
      | .bool, .eql => .done .none [] [] (.bool (a == c))
      | .bool, .neq => .done .none [] [] (.bool (!(a == c)))
      | _, _ => .bad
    | u, .nils c => nilV E s op t u c y
    | u, v => cond (plainTy (E.ty t)) .bad (eqP op (eqV E 20 t u v))
  | .slice t x lo hi mx => sliceV E s t (s.ev E t x) (lo.map (s.ev E 0)) (hi.map (s.ev E 0)) (mx.map (s.ev E 0))
  | .unOp .not _ x => match s.ev E 0 x with | .bool c => .done .none [] [] (.bool (!c)) | _ => .bad
  | .unOp .neg _ x => match s.ev E 0 x with | .int k n => .done .none [] [] (.int k (k.wrap (0 - n))) | _ => .bad
  | .unOp .xor _ x => match s.ev E 0 x with | .int k n => .done .none [] [] (.int k (ixor k (cond k.signed (-1) k.max) n)) | _ => .bad
  | .convert t d x => cond (isNo (E.ty t)) .bad (convV E s b t d (s.ev E t x))
  | .makeFunc (.func f) first caps => cond (first.isEmpty && (caps.toList.map fun x => s.ev E 0 x).all known) (.done .none [] [] (.clo f (caps.toList.map fun x => s.ev E 0 x))) .bad
  | .nilCheck x => match s.ev E 0 x with
    | .ptr n p => .done .none [] [] (.ptr n p)
    | .rp b c l i p => .done .none [] [] (.rp b c l i p)
    | .clo f caps => .done .none [] [] (.clo f caps)
    | _ => .bad
  | .extract x i => match s.ev E 0 x with | .tup l => cond (Nat.blt i l.length) (.done .none [] [] (nth l i)) .bad | _ => .bad
  | .build t ps => match zero E t with
    | .agg z => match E.ty t with
      | .st fs => cond (fieldsFit E fs z 0) (match setParts E z (ps.toList.map fun p => (p.1, s.ev E (fieldTy fs p.1) p.2)) with
        | some l => .done .none [] [] (.agg l)
        | .none => .bad) .bad
      | _ => .bad
    | .arr c n z => match E.ty t with
     | .arr n' c' => cond (Nat.beq n n' && Nat.beq c c') (
      let vals := ps.toList.map fun p => s.ev E c p.2
      match setParts E (z.map (E.enc c)) ((ps.toList.map (·.1)).zip (frzs s.h vals)) with
      | some l => match decs E c l with
        | some l => cond (holes (frzs s.h vals) || (isNo (E.ty c) || Nat.beq (E.sz c) 0)) .bad (.done .none ((frzNs s.h vals).map (·.1)) (frzNs s.h vals) (.arr c n l))
        | .none => .bad
      | .none => .bad) .bad
     | _ => .bad
    | _ => .bad
  | .buildSlice t n ps => match E.ty t with
    | .sl e =>
      let vals := ps.toList.map fun p => s.ev E e p.2
      cond (Nat.beq n 0 && ps.toList.isEmpty) (cond (isNo (E.ty e)) .bad (.done .none [] [(b, .lst e [])] (.own b)))
      (match setParts E ((List.replicate n (E.dflt e)).map (E.enc e)) ((ps.toList.map (·.1)).zip (frzs s.h vals)) with
      | some l => match decs E e l with
        | some l => cond (holes (frzs s.h vals) || (isNo (E.ty e) || (Nat.beq (n * E.sz e) 0 || Nat.blt 16777216 (n * E.sz e)))) .bad (.done .none ((frzNs s.h vals).map (·.1)) (frzNs s.h vals ++ [(b, .lst e l)]) (.own b))
        | .none => .bad
      | .none => .bad)
    | _ => .bad
  | .call c => callV E s b c
  | _ => .bad

end
end Go.V
