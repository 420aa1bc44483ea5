/- V: VDefs, VRun, VRel -/
import Derived.Calls
import Derived.KernelRfl
import Derived.Deep.MidRow
import Derived.Deep.AppendSrc
import Derived.Great.BuildSlice
set_option linter.unusedVariables false
namespace Go.V
inductive Step where
 | fld (k off:Nat)
 | idx (i e n:Nat)
 | elt (i e:Nat)
inductive KT (α:Type) where
 | nil
 | node (g:Int) (v:α) (l r:KT α)
section
variable {α:Type}
def KT.isNil:KT α->Bool
 | .nil=>true
 | _=>false
def KT.lf(d:α):KT α->α
 | .node _ v _ _=>v
 | .nil=>d
def KT.lt:KT α->KT α
 | .node _ _ l _=>l
 | .nil=>.nil
def KT.rt:KT α->KT α
 | .node _ _ _ r=>r
 | .nil=>.nil
end
inductive Ck (U:Nat->Type) where
 | on (b:Bool)
 | kn (c:Nat) (x:KT (U c))
inductive IV where
 | nil
 | int (t:TypeId) (k:IntKind) (n:Int)
 | str (t:TypeId) (s:ByteArray)
 | ref
def IV.isNil:IV->Bool
 | .nil=>true
 | _=>false
def IV.fitI(t:TypeId)(k:IntKind):IV->Bool
 | .nil=>true
 | .int t' k' _=>!Nat.beq t' t||decide (k'=k)
 | .str t' _=>!Nat.beq t' t
 | .ref=>false
def IV.fitS(t:TypeId):IV->Bool
 | .nil=>true
 | .int t' _ _=>!Nat.beq t' t
 | .str _ _=>true
 | .ref=>false
def IV.isT(t:TypeId):IV->Bool
 | .int t' _ _|.str t' _=>Nat.beq t' t
 | _=>false
def IV.getI(t:TypeId):IV->Int
 | .int t' _ n=>cond (Nat.beq t' t) n 0
 | _=>0
def IV.getS(t:TypeId):IV->ByteArray
 | .str t' s=>cond (Nat.beq t' t) s .empty
 | _=>.empty
inductive A (U:Nat->Type):Type where
 | none
 | int (k:IntKind) (n:Int)
 | bool (b:Bool)
 | str (s:ByteArray)
 | nilp
 | nilf
 | agg (l:List (A U))
 | arr (c n:Nat) (l:List (U c))
 | nils (c:Nat)
 | ro (b:Bool) (c:Nat) (l:List (U c))
 | clip (b:Bool) (c:Nat) (l:List (U c))
 | usl (c:Nat) (l:List (U c))
 | own (n:Nat)
 | sub (n c i len:Nat)
 | bsl (n:Nat) (p:List Step) (c N i len:Nat)
 | ptr (n:Nat) (p:List Step)
 | rp (b:Bool) (c:Nat) (l:List (U c)) (i:Nat) (p:List Step)
 | clo (f:FuncId) (caps:List (A U))
 | yld (n:Nat)
 | tup (l:List (A U))
 | tr (c:Nat) (x:KT (U c)) (p:List Step)
 | gh (g:Int)
 | iv (x:IV)
inductive AObj (U:Nat->Type):Type where
 | dead
 | box (a:A U)
 | lst (c:Nat) (l:List (U c))
 | fz (c:Nat) (l:List (U c))
 | lp (f:FuncId) (id:Nat) (live:List Nat) (vals:List (A U)) (st:Nat)
inductive Ty where
 | no|ifc|int (k:IntKind)|bool|str|ptr (e:TypeId)|func|sl (e:TypeId)|arr (n:Nat) (e:TypeId)|st (fs:List (TypeId×Nat))
def isNo:Ty->Bool
 | .no=>true
 | _=>false
structure Row where
 t:TypeId
 ty:Ty
 sz:Nat
 by':Nat
structure Kn (U:Nat->Type) where
 kp:TypeId
 ks:TypeId
 c:Nat
 mz:A U
 dc:Nat
 dn:Nat
 dg:Int->KT (U c)->A U
def noKn{U:Nat->Type}:Kn U:={ kp:=1000000000,ks:=1000000000,c:=0,mz:=.none,dc:=0,dn:=0,dg:=fun _ _=>.nilp }
structure Env (U:Nat->Type) where
 P:Program
 tys:List Row
 enc:(c:Nat)->U c->A U
 dec:(c:Nat)->A U->Option (U c)
 dflt:(c:Nat)->U c
 eqb:(c:Nat)->List (U c)->List (U c)->Bool
 ofBytes:(c:Nat)->ByteArray->Option (List (U c))
 toBytes:(c:Nat)->List (U c)->Option ByteArray
 cuts:List (FuncId×Nat×List Nat)
 procs:List FuncId
 loops:List (FuncId×Nat×List Nat)
 eqs:List TypeId
 glob:Nat->A U
 lends:List FuncId
 reads:List FuncId:=[]
 whole:Nat->Option Nat:=fun _=>.none
 kn:Kn U
section
variable {U:Nat->Type}
def rowOf(t:TypeId):List Row->Option Row
 | []=>.none
 | r::l=>cond (Nat.beq r.t t) (some r) (rowOf t l)
def Env.ty(E:Env U)(t:TypeId):Ty:=match rowOf t E.tys with|some r=>r.ty|.none=>.no
def Env.sz(E:Env U)(t:TypeId):Nat:=match rowOf t E.tys with|some r=>r.sz|.none=>0
def Env.by'(E:Env U)(t:TypeId):Nat:=match rowOf t E.tys with|some r=>r.by'|.none=>0
mutual
def size(sz:Nat->Nat):A U->Nat
 | .agg l=>sizes sz l
 | .arr c n _=>n*sz c
 | .gh _=>3
 | _=>1
def sizes(sz:Nat->Nat):List (A U)->Nat
 | []=>0
 | a::l=>size sz a+sizes sz l
end
def isAgg:A U->Bool
 | .agg _|.arr .. | .gh _=>true
 | _=>false
def known:A U->Bool
 | .none|.tup _|.usl .. => false
 | _=>true
structure S (U:Nat->Type) where
 t:Nat->A U
 h:Nat->AObj U
 nx:Nat
 nb:Nat
def upd{α:Type}(f:Nat->α)(n:Nat)(x:α):Nat->α:=fun m=>cond (Nat.beq m n) x (f m)
def upds{α:Type}(f:Nat->α):List (Nat×α)->Nat->α
 | []=>f
 | (n,x)::l=>upds (upd f n x) l
def S.put(s:S U)(wr:List (Nat×AObj U))(d:Option Nat)(v:A U):S U:=
 {t:=match d with|some d=>upd s.t d v|.none=>s.t,h:=upds s.h wr,nx:=s.nx,nb:=s.nb }
def memN(n:Nat):List Nat->Bool
 | []=>false
 | m::l=>Nat.beq m n||memN n l
variable (E:Env U)
def rowTy:Ty->Bool
 | .arr .. | .st _=>true
 | _=>false
def fits(t:TypeId)(v:A U):Bool:=known v&&(Nat.beq (size E.sz v) (E.sz t)&&((isAgg v==rowTy (E.ty t))&&!isNo (E.ty t)))
def slOf(t c:Nat):Bool:=match E.ty t with|.sl e=>Nat.beq e c&&(!isNo (E.ty e)&&!Nat.beq (E.by' e) 0)|_=>false
def nth(l:List (A U))(k:Nat):A U:=match l,k with
 | [],_=>.none
 | a::_,0=>a
 | _::l,k+1=>nth l k
def getP:A U->List Step->A U
 | a,[]=>a
 | .agg l,.fld k off::p=>cond (Nat.beq (sizes E.sz (l.take k)) off) (getP (nth l k) p) .none
 | .arr c n l,.idx i e m::p=>cond (Nat.beq (E.sz c) e&&Nat.beq n m) (getP (E.enc c (l.getD i (E.dflt c))) p) .none
 | _,_=>.none
def setP:A U->List Step->A U->Option (A U)
 | a,[],v=>cond (Nat.beq (size E.sz a) (size E.sz v)&&(known v&&(isAgg a==isAgg v))) (some v) .none
 | .agg l,.fld k off::p,v=>cond (Nat.beq (sizes E.sz (l.take k)) off&&Nat.blt k l.length)
   (match setP (nth l k) p v with|some x=>some (.agg (l.set k x))|.none=>.none) .none
 | .arr c n l,.idx i e m::p,v=>cond (Nat.beq (E.sz c) e&&Nat.beq n m)
   (match setP (E.enc c (l.getD i (E.dflt c))) p v with
    | some x=>(match E.dec c x with|some y=>some (.arr c n (l.set i y))|.none=>.none)|.none=>.none) .none
 | _,_,_=>.none
def getO:AObj U->List Step->A U
 | .box a,p=>getP E a p
 | .lst c l,.elt i e::p|.fz c l,.elt i e::p=>cond (Nat.beq (E.sz c) e) (getP E (E.enc c (l.getD i (E.dflt c))) p) .none
 | _,_=>.none
def setO:AObj U->List Step->A U->Option (AObj U)
 | .box a,p,v=>match setP E a p v with|some x=>some (.box x)|.none=>.none
 | .lst c l,.elt i e::p,v=>cond (Nat.beq (E.sz c) e)
   (match setP E (E.enc c (l.getD i (E.dflt c))) p v with
    | some x=>(match E.dec c x with|some y=>some (.lst c (l.set i y))|.none=>.none)|.none=>.none) .none
 | _,_,_=>.none
def cut{α:Type}(l:List α)(i len:Nat):List α:=(l.drop i).take len
def knA(c:Nat)(x:KT (U c)):A U:=.agg [E.kn.mz,E.enc c (x.lf (E.dflt c)),.tr c x.lt [],.tr c x.rt []]
def plainK:List Step->Bool
 | .fld (_+1) _::_=>true
 | _=>false
mutual
def flat:A U->Option (List (IntKind×Int))
 | .int k n=>some [(k,n)]
 | .agg l=>flats l
 | _=>.none
def flats:List (A U)->Option (List (IntKind×Int))
 | []=>some []
 | a::l=>match flat a,flats l with
  | some x,some y=>some (x++y)
  | _,_=>.none
end
def onceZ:Option (List (IntKind×Int))->Bool
 | some [(.u32,.ofNat 0),(.i32,.ofNat 0),(.u32,.ofNat 0)]=>true
 | _=>false
def knotBox(g:Int):A U->Option (A U)
 | .agg (.agg [o,d]::l)=>cond (onceZ (flat o)) (some (.agg (.agg [.gh g,d]::l))) .none
 | _=>.none
def knotOf:AObj U->Option (KT (U E.kn.c))
 | .box (.agg [.agg [.gh g,.arr dc dn dl],v,.tr c1 x1 [],.tr c2 x2 []])=>
  if h1:c1=E.kn.c then if h2:c2=E.kn.c then
   (match E.dec E.kn.c v with
    | some y=>cond (Nat.beq dc E.kn.dc&&(Nat.beq dn E.kn.dn&&Nat.beq (size E.sz (.agg [.gh g,.arr dc dn dl])) (size E.sz E.kn.mz))) (some (.node g y (h1▸x1) (h2▸x2))) .none
    | .none=>.none) else .none else .none
 | _=>.none
def kconv(h:Nat->AObj U):A U->A U×List (Nat×AObj U)
 | .ptr m []=>match knotOf E (h m) with
  | some x=>(.tr E.kn.c x [],[(m,.dead)])
  | .none=>(.ptr m [],[])
 | a=>(a,[])
def krd:A U->List Nat
 | .ptr m []=>[m]
 | _=>[]
def krds:List (A U)->List Nat
 | []=>[]
 | a::l=>krd a++krds l
def kconvs(h:Nat->AObj U):List (A U)->List (A U)×List (Nat×AObj U)
 | []=>([],[])
 | a::l=>
  let r:=kconv E h a
  let q:=kconvs (upds h r.2) l
  (r.1::q.1,r.2++q.2)
structure Cont (U:Nat->Type) where
 rd:List Nat
 c:Nat
 l:List (U c)
def content(h:Nat->AObj U):A U->Option (Cont U)
 | .nils c=>some ⟨[],c,[]⟩
 | .ro _ c l|.clip _ c l=>some ⟨[],c,l⟩
 | .own m=>match h m with
  | .lst c l|.fz c l=>some ⟨[m],c,l⟩
  | _=>.none
 | .sub m c' i len=>match h m with
  | .lst c l|.fz c l=>cond (Nat.beq c c') (some ⟨[m],c,cut l i len⟩) .none
  | _=>.none
 | .bsl m p c N i len=>match h m with
  | .box a=>(match getP E a p with|.arr c' N' l=>cond (Nat.beq c c'&&Nat.beq N N') (some ⟨[m],c',cut l i len⟩) .none|_=>.none)
  | _=>.none
 | _=>.none
mutual
def hole:A U->Bool
 | .none=>true
 | .agg l|.clo _ l=>holes l
 | _=>false
def holes:List (A U)->Bool
 | []=>false
 | a::l=>hole a||holes l
end
mutual
def frz(h:Nat->AObj U):A U->A U
 | .agg l=>.agg (frzs h l)
 | .nils c=>.ro false c []
 | .clip false c l=>.ro false c l
 | .own m=>match h m with
  | .lst c l|.fz c l=>.ro false c l
  | _=>.none
 | a=>a
def frzs(h:Nat->AObj U):List (A U)->List (A U)
 | []=>[]
 | a::l=>frz h a::frzs h l
end
mutual
def frzN(h:Nat->AObj U):A U->List (Nat×AObj U)
 | .agg l=>frzNs h l
 | .own m=>match h m with
  | .lst c l|.fz c l=>[(m,.fz c l)]
  | _=>[]
 | _=>[]
def frzNs(h:Nat->AObj U):List (A U)->List (Nat×AObj U)
 | []=>[]
 | a::l=>frzN h a++frzNs h l
end
def zeroA:Nat->TypeId->A U
 | 0,_=>.none
 | n+1,t=>match E.ty t with
  | .int k=>.int k 0
  | .bool=>.bool false
  | .str=>.str .empty
  | .ptr _=>cond (Nat.beq t E.kn.kp) (.tr E.kn.c .nil []) .nilp
  | .func=>.nilf
  | .sl e=>.nils e
  | .arr m e=>.arr e m (List.replicate m (E.dflt e))
  | .st fs=>.agg (fs.map fun f=>zeroA n f.1)
  | .ifc=>.iv .nil
  | .no=>.none
def zero(t:TypeId):A U:=zeroA E 20 t
def constA(t:TypeId):Value->A U
 | .int k n=>.int k n
 | .bool b=>.bool b
 | .string s=>.str s
 | .pointer .none=>cond (Nat.beq t E.kn.kp) (.tr E.kn.c .nil []) .nilp
 | .nilFunc=>.nilf
 | .nilIface=>.iv .nil
 | .slice .none 0 0=>match E.ty t with|.sl e=>.nils e|_=>.none
 | _=>.none
def S.ev(s:S U)(t:TypeId):Operand->A U
 | .tmp d=>s.t d
 | .const v=>constA E t v
 | .func f=>cond (Nat.blt f 1000000) (.clo f []) .none
 | .global g=>E.glob g
def addN(l:List Nat)(n:Nat):List Nat:=cond (memN n l) l (l++[n])
def addNs(l:List Nat):List Nat->List Nat
 | []=>l
 | n::r=>addNs (addN l n) r
def idxN(n:Nat):List Nat->Nat
 | []=>0
 | m::l=>cond (Nat.beq m n) 0 (idxN n l+1)
def countN(n:Nat):List Nat->Nat
 | []=>0
 | m::l=>cond (Nat.beq m n) (countN n l+1) (countN n l)
def nthN(l:List Nat)(k:Nat)(d:Nat):Nat:=match l,k with
 | [],_=>d
 | a::_,0=>a
 | _::l,k+1=>nthN l k d
def distinctN:List Nat->Bool
 | []=>true
 | n::l=>!memN n l&&distinctN l
def upto:Nat->List Nat
 | 0=>[]
 | n+1=>upto n++[n]
mutual
def owns:A U->List Nat
 | .own n|.sub n .. | .bsl n .. => [n]
 | .agg l|.tup l|.clo _ l=>ownss l
 | _=>[]
def ownss:List (A U)->List Nat
 | []=>[]
 | a::l=>owns a++ownss l
end
def objA:AObj U->A U
 | .box a=>a
 | .lp _ _ _ vals _=>.tup vals
 | _=>.none
def reach(nm:A U->List Nat)(h:Nat->AObj U):(fuel j:Nat)->List Nat->List Nat
 | 0,_,l=>l
 | n+1,j,l=>match l.drop j with
  | []=>l
  | m::_=>reach nm h n (j+1) (addNs l (nm (objA (h m))))
mutual
def denil:A U->Nat->A U×(List (Nat×AObj U)×Nat)
 | .nils c,n=>(.own n,([(n,.lst c [])],n+1))
 | .agg l,n=>let r:=denils l n;(.agg r.1,r.2)
 | a,n=>(a,([],n))
def denils:List (A U)->Nat->List (A U)×(List (Nat×AObj U)×Nat)
 | [],n=>([],([],n))
 | a::l,n=>
  let r:=denil a n
  let q:=denils l r.2.2
  (r.1::q.1,(r.2.1++q.2.1,q.2.2))
end
mutual
def renA(L:List Nat):A U->A U
 | .own n=>.own (idxN n L)
 | .sub n c i len=>.sub (idxN n L) c i len
 | .bsl n p c N i len=>.bsl (idxN n L) p c N i len
 | .ptr n p=>.ptr (idxN n L) p
 | .yld n=>.yld (idxN n L)
 | .agg l=>.agg (renAs L l)
 | .tup l=>.tup (renAs L l)
 | .clo f l=>.clo f (renAs L l)
 | a=>a
def renAs(L:List Nat):List (A U)->List (A U)
 | []=>[]
 | a::l=>renA L a::renAs L l
end
def renO(L:List Nat):AObj U->AObj U
 | .box a=>.box (renA L a)
 | .lp f id live vals st=>.lp f id live (renAs L vals) st
 | o=>o
mutual
def names:A U->List Nat
 | .ptr n _|.own n|.sub n .. | .bsl n .. | .yld n=>[n]
 | .agg l|.tup l|.clo _ l=>namess l
 | _=>[]
def namess:List (A U)->List Nat
 | []=>[]
 | a::l=>names a++namess l
end
def denilB(h:Nat->AObj U):List Nat->Nat->List (Nat×AObj U)×Nat
 | [],n=>([],n)
 | m::l,n=>match h m with
  | .box a=>
   let r:=denil a n
   let q:=denilB h l r.2.2
   (r.2.1++(m,.box r.1)::q.1,q.2)
  | _=>denilB h l n
def inN(L:List Nat):List Nat->Bool
 | []=>true
 | n::l=>memN n L&&inN L l
def closedN(h:Nat->AObj U)(L:List Nat):List Nat->Bool
 | []=>true
 | n::l=>inN L (names (objA (h n)))&&closedN h L l
structure Laid (U:Nat->Type) where
 vals:List (A U)
 objs:List (AObj U)
 L1:List Nat
 L:List Nat
 wr:List (Nat×AObj U)
 n:Nat
def layG(h:Nat->AObj U)(n0:Nat)(first:List Nat)(vs:List (A U)):Option (Laid U):=
 let r:=denils vs n0
 let h1:=upds h r.2.1
 let L1:=reach names h1 60 0 (addNs first (namess r.1))
 let q:=denilB h1 L1 r.2.2
 let h2:=upds h1 q.1
 let L:=reach names h2 60 0 (addNs first (namess r.1))
 cond (distinctN L1&&(distinctN L&&(inN L (namess r.1)&&closedN h2 L L))) (some ⟨renAs L r.1,L.map fun n=>renO L (h2 n),L1,L,r.2.1++q.1,q.2⟩) .none
inductive Plan (U:Nat->Type) where
 | bad
 | done (pre:Option Prop) (rd:List Nat) (wr:List (Nat×AObj U)) (v:A U)
 | call (f:FuncId) (args:List (A U)) (look:List Nat)
 | yield (n:Nat) (f:FuncId) (id:Nat) (vals args:List (A U)) (look:List Nat)
 | any (q:Prop) (rd:List Nat) (neg:Bool)
 | knot (b:Nat) (v:A U)
def iand(k:IntKind)(x y:Int):Int:=k.wrap ((BitVec.ofInt k.bits x &&& BitVec.ofInt k.bits y).toNat)
def ior(k:IntKind)(x y:Int):Int:=k.wrap ((BitVec.ofInt k.bits x ||| BitVec.ofInt k.bits y).toNat)
def ixor(k:IntKind)(x y:Int):Int:=k.wrap ((BitVec.ofInt k.bits x ^^^ BitVec.ofInt k.bits y).toNat)
def iandn(k:IntKind)(x y:Int):Int:=k.wrap ((BitVec.ofInt k.bits x &&& ~~~BitVec.ofInt k.bits y).toNat)
def ishl(k:IntKind)(x y:Int):Int:=k.wrap (x*2 ^ (min y.toNat k.bits))
def ishr(k:IntKind)(x y:Int):Int:=x.fdiv (2 ^ (min y.toNat k.bits))
def seq(s t:ByteArray):Bool:=decide (s=t)
def slt(s t:ByteArray):Bool:=Op.bytesLess s.toList t.toList
def intOp(op:BinOp)(k:IntKind)(x y:Int):Option (Option Prop×A U):=match op with
 | .add=>some (.none,.int k (k.wrap (x+y)))
 | .sub=>some (.none,.int k (k.wrap (x-y)))
 | .mul=>some (.none,.int k (k.wrap (x*y)))
 | .quo=>some (some (y≠0),.int k (k.wrap (x.tdiv y)))
 | .rem=>some (some (y≠0),.int k (x.tmod y))
 | .and=>some (.none,.int k (iand k x y))
 | .or=>some (.none,.int k (ior k x y))
 | .xor=>some (.none,.int k (ixor k x y))
 | .andNot=>some (.none,.int k (iandn k x y))
 | .eql=>some (.none,.bool (decide (x=y)))
 | .neq=>some (.none,.bool (!decide (x=y)))
 | .lss=>some (.none,.bool (decide (x<y)))
 | .leq=>some (.none,.bool (decide (x<=y)))
 | .gtr=>some (.none,.bool (decide (y<x)))
 | .geq=>some (.none,.bool (decide (y<=x)))
 | _=>.none
def maxStr:Nat:=140737488355328
def strOp(op:BinOp)(x y:ByteArray):Option (Option Prop×A U):=match op with
 | .add=>some (some (x.size+y.size<=maxStr),.str (x++y))
 | .eql=>some (.none,.bool (seq x y))
 | .neq=>some (.none,.bool (!seq x y))
 | .lss=>some (.none,.bool (slt x y))
 | .leq=>some (.none,.bool (slt x y||seq x y))
 | .gtr=>some (.none,.bool (!(slt x y||seq x y)))
 | .geq=>some (.none,.bool (!slt x y))
 | _=>.none
def plainTy:Ty->Bool
 | .int _|.bool|.str=>true
 | _=>false
def eqFs(E:Env U)(q:TypeId->A U->A U->Option Bool):List (TypeId×Nat)->List (A U)->List (A U)->Nat->Option Bool
 | [],[],[],_=>some true
 | (t,off)::fs,a::l,b::m,k=>cond (Nat.beq off k&&(fits E t a&&fits E t b)) (match q t a b,eqFs E q fs l m (k+size E.sz a) with
  | some x,some y=>some (x&&y)
  | _,_=>.none) .none
 | _,_,_,_=>.none
def eqV(E:Env U):Nat->TypeId->A U->A U->Option Bool
 | 0,_,_,_=>.none
 | m+1,t,a,b=>match E.ty t with
  | .int _=>(match a,b with|.int k n,.int k' n'=>cond (decide (k=k')) (some (decide (n=n'))) .none|_,_=>.none)
  | .bool=>(match a,b with|.bool x,.bool y=>some (x==y)|_,_=>.none)
  | .str=>(match a,b with|.str x,.str y=>some (seq x y)|_,_=>.none)
  | .ptr _=>(match a,b with
   | .nilp,.nilp=>some true
   | .nilp,.ptr .. | .ptr ..,.nilp|.nilp,.rp .. | .rp ..,.nilp=>some false
   | .tr _ x [],.tr _ .nil []=>some x.isNil
   | .ptr ..,.tr _ .nil []=>some false
   | _,_=>.none)
  | .arr n e=>(match a,b with
   | .arr c n1 x,.arr c' n2 y=>if h:c'=c then cond ((Nat.blt 0 m&&memN t E.eqs)&&((Nat.beq c e&&Nat.beq n1 n)&&(Nat.beq n2 n&&plainTy (E.ty e)))) (some (E.eqb c x (h▸y))) .none else .none
   | _,_=>.none)
  | .st fs=>(match a,b with|.agg x,.agg y=>cond (memN t E.eqs) (eqFs E (eqV E m) fs x y 0) .none|_,_=>.none)
  | _=>.none
def room(n b:Nat):Prop:=n*b<=140737488351232
def fieldsFit(E:Env U):List (TypeId×Nat)->List (A U)->Nat->Bool
 | [],[],_=>true
 | (t,off)::fs,a::l,k=>Nat.beq off k&&(!isNo (E.ty t)&&(Nat.beq (E.sz t) (size E.sz a)&&fieldsFit E fs l (k+size E.sz a)))
 | _,_,_=>false
def fieldTy(fs:List (TypeId×Nat))(k:Nat):TypeId:=match fs[k]? with|some f=>f.1|.none=>0
def fieldAt(fs:List (TypeId×Nat))(k:Nat):Option (TypeId×Nat):=fs[k]?
def setParts(E:Env U):List (A U)->List (Nat×A U)->Option (List (A U))
 | l,[]=>some l
 | l,(k,v)::r=>cond (Nat.blt k l.length&&(Nat.beq (size E.sz (nth l k)) (size E.sz v)&&(known v&&(isAgg (nth l k)==isAgg v)))) (setParts E (l.set k v) r) .none
def decs(E:Env U)(c:Nat):List (A U)->Option (List (U c))
 | []=>some []
 | a::l=>match E.dec c a,decs E c l with
  | some x,some r=>some (x::r)
  | _,_=>.none
def isBsl:A U->Bool
 | .sub .. | .bsl .. => true
 | _=>false
def optI(d:Int):Option (A U)->Option Int
 | .none=>some d
 | some (.int _ n)=>some n
 | _=>.none
def sliceV(s:S U)(t:TypeId)(x:A U)(lo hi mx:Option (A U)):Plan U:=
 match x,mx with
 | .ro b c l,.none=>cond (slOf E t c) (match lo,hi with
  | .none,.none=>.done .none [] [] (.ro b c l)
  | some (.int _ i),.none=>.done (some (0<=i/\i<=(l.length:Int))) [] [] (.ro b c (l.drop i.toNat))
  | .none,some (.int _ j)=>.done (some (0<=j/\j<=(l.length:Int))) [] [] (.ro b c (l.take j.toNat))
  | some (.int _ i),some (.int _ j)=>.done (some (0<=i/\i<=j/\j<=(l.length:Int))) [] [] (.ro b c (cut l i.toNat (j-i).toNat))
  | _,_=>.bad) .bad
 | .ro b c l,some (.int _ m)=>cond (slOf E t c) (match hi,optI 0 lo with
  | some (.int _ j),some i=>.done (some (0<=i/\i<=j/\j=m/\j<=(l.length:Int))) [] [] (.clip b c (cut l i.toNat (j-i).toNat))
  | _,_=>.bad) .bad
 | .rp b c l i p,.none=>match E.ty t,lo,hi with
  | .arr n e,.none,.none=>match getP E (E.enc c (l.getD i (E.dflt c))) p with
   | .arr e' n' r=>cond (Nat.beq e e'&&(Nat.beq n n'&&!isNo (E.ty e))) (.done .none [] [] (.ro b e' r)) .bad
   | _=>.bad
  | _,_,_=>.bad
 | .own m,.none=>match s.h m with
  | .lst c l|.fz c l=>cond (slOf E t c) (match optI 0 lo,optI (l.length:Int) hi with
   | some i,some j=>.done (some (0<=i/\i<=j/\j<=(l.length:Int))) [m] [] (.sub m c i.toNat (j-i).toNat)
   | _,_=>.bad) .bad
  | _=>.bad
 | .sub m c k len,.none=>match s.h m with
  | .lst c' l=>cond (slOf E t c&&Nat.beq c c') (match optI 0 lo,optI (len:Int) hi with
   | some i,some j=>.done (some (0<=i/\i<=j/\j<=(len:Int))) [m] [] (.sub m c (k+i.toNat) (j-i).toNat)
   | _,_=>.bad) .bad
  | _=>.bad
 | .str g,.none=>match E.ty t,optI 0 lo,optI (g.size:Int) hi with
  | .str,some i,some j=>.done (some (0<=i/\i<=j/\j<=(g.size:Int))) [] [] (.str (g.extract i.toNat j.toNat))
  | _,_,_=>.bad
 | .ptr m p,.none=>match E.ty t,s.h m,optI 0 lo with
  | .arr n e,.box _,some i=>match optI (n:Int) hi with
   | some j=>cond (isNo (E.ty e)) .bad (.done (some (0<=i/\i<=j/\j<=(n:Int))) [m] [] (.bsl m p e n i.toNat (j-i).toNat))
   | .none=>.bad
  | _,_,_=>.bad
 | _,_=>.bad
def bt(s:ByteArray)(i:Nat):Int:=((s.data.getD i 0).toNat:Int)
def srcV(h:Nat->AObj U)(tx ty:TypeId)(y:A U):Option (Cont U):=
 match E.ty ty with
 | .sl _=>content E h y
 | .str=>match y,E.ty tx with
  | .str t,.sl e=>match E.ofBytes e t with|some l=>some ⟨[],e,l⟩|.none=>.none
  | _,_=>.none
 | _=>.none
def appendV(s:S U)(b:Nat)(tx ty:TypeId)(x y:A U):Plan U:=
 match srcV E s.h tx ty y with
  | some q=>match x with
   | .nils c=>cond (slOf E tx c) (if h:q.c=c then .done (some (room q.l.length (E.by' c))) q.rd [(b,.lst c (h▸q.l))] (.own b) else .bad) .bad
   | .clip _ c lx=>cond (slOf E tx c) (if h:q.c=c then .done (some (room (lx.length+q.l.length) (E.by' c)/\(lx=[]\/q.l≠[]))) q.rd [(b,.lst c (lx++h▸q.l))] (.own b) else .bad) .bad
   | .own m=>match s.h m with
    | .lst c lx=>cond (slOf E tx c) (if h:q.c=c then .done (some (room (lx.length+q.l.length) (E.by' c))) (m::q.rd) [(m,.dead),(b,.lst c (lx++h▸q.l))] (.own b) else .bad) .bad
    | _=>.bad
   | _=>.bad
  | .none=>.bad
def splice{α:Type}(l:List α)(i:Nat)(src:List α)(n:Nat):List α:=l.take i++(src.take n++l.drop (i+n))
def lenV(s:S U)(t:TypeId)(x:A U):Plan U:=
 match E.ty t with
 | .str=>match x with
  | .str b=>.done .none [] [] (.int .i64 (b.size:Int))
  | _=>.bad
 | .arr n _=>.done .none [] [] (.int .i64 (n:Int))
 | .sl _=>match x with
  | .sub _ _ _ n|.bsl _ _ _ _ _ n=>.done .none [] [] (.int .i64 (n:Int))
  | .nils _=>.done .none [] [] (.int .i64 0)
  | .ro _ _ l|.clip _ _ l=>.done .none [] [] (.int .i64 (l.length:Int))
  | .own m=>match s.h m with
   | .lst _ l|.fz _ l=>.done .none [m] [] (.int .i64 (l.length:Int))
   | _=>.bad
  | _=>.bad
 | _=>.bad
def bytesOf(l:List Int):ByteArray:=⟨(l.map fun n=>UInt8.ofNat n.toNat).toArray⟩
def bytesTo(s:ByteArray):List Int:=s.data.toList.map fun b=>(b.toNat:Int)
def convV(s:S U)(b:Nat)(src dst:TypeId)(x:A U):Plan U:=
 match E.ty dst,x with
 | .int k,.int _ n=>.done .none [] [] (.int k (k.wrap n))
 | .str,.str t=>.done .none [] [] (.str t)
 | .str,y=>match content E s.h y with
  | some q=>cond (slOf E src q.c) (match E.toBytes q.c q.l with|some t=>.done .none q.rd [] (.str t)|.none=>.bad) .bad
  | .none=>.bad
 | .sl e,.str t=>match E.ty src,E.ofBytes e t with
  | .str,some l=>.done (some (t.size<=maxStr)) [] [(b,.lst e l)] (.own b)
  | _,_=>.bad
 | _,_=>.bad
def copyV(s:S U)(tx ty:TypeId)(x y:A U):Plan U:=
 match E.ty ty,content E s.h y,x with
 | .sl _,some q,.bsl m p c n i len=>match s.h m with
  | .box a=>(match getP E a p with
   | .arr c' n' l=>if h:q.c=c' then cond (slOf E tx c&&(Nat.beq c c'&&Nat.beq n n')) (match setP E a p (.arr c' n' (splice l i (h▸q.l) (Nat.min q.l.length len))) with
    | some a'=>.done .none (m::q.rd) [(m,.box a')] (.int .i64 ((Nat.min q.l.length len:Nat):Int))
    | .none=>.bad) .bad else .bad
   | _=>.bad)
  | _=>.bad
 | _,_,_=>.bad
def maxI(x y:Int):Int:=cond (decide (x<y)) y x
def minI(x y:Int):Int:=cond (decide (y<x)) y x
def foldJ(f:Int->Int->Int)(n:Int):List (A U)->Option Int
 | []=>some n
 | .int _ m::l=>foldJ f (f n m) l
 | _=>.none
def foldI(f:Int->Int->Int):List (A U)->Option (IntKind×Int)
 | .int k n::l=>match foldJ f n l with|some m=>some (k,m)|.none=>.none
 | _=>.none
def evArgs(s:S U):List Operand->List TypeId->List (A U)
 | [],_=>[]
 | x::l,t::ts=>s.ev E t x::evArgs s l ts
 | x::l,[]=>s.ev E 0 x::evArgs s l []
def lend1(h:Nat->AObj U):A U->A U×List (Nat×AObj U)
 | .bsl m p c n i len=>match content E h (.bsl m p c n i len) with
  | some q=>(.ro false q.c q.l,[(m,.dead)])
  | .none=>(.none,[])
 | a=>(frz h a,frzN h a)
def lendAll(h:Nat->AObj U):List (A U)->List (A U)×List (Nat×AObj U)
 | []=>([],[])
 | a::l=>
  let r:=lend1 E h a
  let q:=lendAll (upds h r.2) l
  (r.1::q.1,r.2++q.2)
def mfn(g:Nat):Nat:=cond (Nat.blt g 1000000) g (g % 1000000)
def margs{α:Type}(g:Nat)(args caps:List α):List α:=cond (Nat.blt g 1000000) (args++caps) (caps++args)
def callV(s:S U)(b:Nat)(c:Call):Plan U:=
 let args:=evArgs E s c.args.toList c.argTypes.toList
 match c.callee with
 | .builtin .len=>match c.args.toList,c.argTypes.toList with|[x],t::_=>lenV E s t (s.ev E t x)|_,_=>.bad
 | .builtin .copy=>match c.args.toList,c.argTypes.toList with|[x,y],[t,u]=>copyV E s t u (s.ev E t x) (s.ev E u y)|_,_=>.bad
 | .builtin .max=>match foldI maxI args with|some (k,n)=>.done .none [] [] (.int k n)|.none=>.bad
 | .builtin .min=>match foldI minI args with|some (k,n)=>.done .none [] [] (.int k n)|.none=>.bad
 | .builtin .append=>match c.args.toList,c.argTypes.toList with|[x,y],[t,u]=>appendV E s b t u (s.ev E t x) (s.ev E u y)|_,_=>.bad
 | .value f=>match s.ev E 0 f with
  | .clo g caps=>cond (Nat.blt (mfn g) 1000000) (cond (memN (mfn g) E.procs) (cond (memN (mfn g) E.lends)
    (match layG (upds s.h (lendAll E s.h (margs g args caps)).2) b [] (lendAll E s.h (margs g args caps)).1 with|some x=>.call (mfn g) (margs g args caps) (namess (margs g args caps)++(x.L1++x.L))|.none=>.bad)
    (match layG s.h b [] (margs g args caps) with|some x=>.call (cond (memN (mfn g) E.reads) (mfn g+2000000) (mfn g)) (margs g args caps) (x.L1++x.L)|.none=>.bad)) (.call (mfn g) (margs g args caps) (ownss (margs g args caps)))) .bad
  | .yld n=>match s.h n with
   | .lp g id _ vals 0=>(match layG s.h b [] (args++vals) with|some x=>.yield n g id vals args (n::(x.L1++x.L))|.none=>.bad)
   | _=>.bad
  | _=>.bad
 | _=>.bad
def eqP(op:BinOp):Option Bool->Plan U
 | some r=>(match op with|.eql=>.done .none [] [] (.bool r)|.neq=>.done .none [] [] (.bool (!r))|_=>.bad)
 | .none=>.bad
def nilV(s:S U)(op:BinOp)(t:TypeId)(u:A U)(c:Nat)(y:Operand):Plan U:=
 match y with
 | .const (.slice .none 0 0)=>cond (slOf E t c&&!isBsl u) (match content E s.h u,op with
  | some q,.eql=>.any (q.l=[]) q.rd false
  | some q,.neq=>.any (q.l=[]) q.rd true
  | _,_=>.bad) .bad
 | _=>.bad
def plan(b:Nat)(o:Oper)(s:S U):Plan U:=
 match o.op with
 | .move x|.assign x=>.done .none [] [] (s.ev E o.type x)
 | .pick c x y=>match s.ev E 0 c with
  | .bool c=>.done .none [] [] (cond c (s.ev E o.type x) (s.ev E o.type y))
  | _=>.bad
 | .alloc t=>match zero E t with
  | .none=>.bad
  | z=>.done .none [] [(b,.box z)] (.ptr b [])
 | .box t x=>let v:=s.ev E t x;cond (fits E t v) (cond (Nat.beq t E.kn.ks) (.knot b v) (.done .none [] [(b,.box v)] (.ptr b []))) .bad
 | .load t x=>match s.ev E 0 x with
  | .ptr n p=>let v:=getO E (s.h n) p;cond (fits E t v) (.done .none [n] [] v) .bad
  | .rp _ c l i p=>let v:=getP E (E.enc c (l.getD i (E.dflt c))) p;cond (fits E t v) (.done .none [] [] v) .bad
  | .tr c x p=>let v:=getP E (knA E c x) p;cond (fits E t v&&(plainK p&&Nat.beq c E.kn.c)) (.done .none [] [] v) .bad
  | _=>.bad
 | .store t x y=>match s.ev E 0 x with
  | .ptr n p=>match s.h n with
   | .box a=>let r:=kconv E s.h (s.ev E t y);cond (fits E t r.1&&!memN n (r.2.map (·.1))) (match setP E a p r.1 with
    | some a'=>.done .none (n::krd (s.ev E t y)) (r.2++[(n,.box a')]) .none
    | .none=>.bad) .bad
   | .lst c l=>cond ((fits E t (frz s.h (s.ev E t y))&&!hole (frz s.h (s.ev E t y)))&&!memN n ((frzN s.h (s.ev E t y)).map (·.1))) (match setO E (.lst c l) p (frz s.h (s.ev E t y)) with
    | some o'=>.done .none (n::(frzN s.h (s.ev E t y)).map (·.1)) (frzN s.h (s.ev E t y)++[(n,o')]) .none
    | .none=>.bad) .bad
   | _=>.bad
  | _=>.bad
 | .fieldAddr t x k=>match s.ev E 0 x,E.ty t with
  | .ptr n p,.st fs=>match fieldAt fs k with|some f=>cond (Nat.beq (E.sz f.1) 0||isNo (E.ty f.1)) .bad (.done .none [] [] (.ptr n (p++[.fld k f.2])))|.none=>.bad
  | .rp b c l i p,.st fs=>match fieldAt fs k with|some f=>cond (Nat.beq (E.sz f.1) 0||isNo (E.ty f.1)) .bad (.done .none [] [] (.rp b c l i (p++[.fld k f.2])))|.none=>.bad
  | .tr c x p,.st fs=>match fieldAt fs k with|some f=>cond (Nat.beq (E.sz f.1) 0||isNo (E.ty f.1)) .bad (.done (some (x.isNil=false)) [] [] (.tr c x (p++[.fld k f.2])))|.none=>.bad
  | _,_=>.bad
 | .field t x k=>match s.ev E 0 x,E.ty t with
  | .agg l,.st fs=>match fieldAt fs k with
   | some f=>let v:=nth l k;cond (Nat.beq (sizes E.sz (l.take k)) f.2&&fits E f.1 v) (.done .none [] [] v) .bad
   | .none=>.bad
  | _,_=>.bad
 | .indexAddr t x i=>match s.ev E 0 i with
  | .int _ n=>match s.ev E t x with
   | .own m=>match s.h m with
    | .lst c l|.fz c l=>cond (slOf E t c) (.done (some (0<=n/\n<(l.length:Int))) [m] [] (.ptr m [.elt n.toNat (E.sz c)])) .bad
    | _=>.bad
   | .ro b c l|.clip b c l=>cond (slOf E t c) (.done (some (0<=n/\n<(l.length:Int))) [] [] (.rp b c l n.toNat [])) .bad
   | .sub m c i len=>match s.h m with
    | .lst c' _|.fz c' _=>cond (slOf E t c&&Nat.beq c c') (.done (some (0<=n/\n<(len:Int))) [m] [] (.ptr m [.elt (i+n.toNat) (E.sz c)])) .bad
    | _=>.bad
   | .bsl m p c N i len=>cond (slOf E t c) (.done (some (0<=n/\n<(len:Int))) [] [] (.ptr m (p++[.idx (i+n.toNat) (E.sz c) N]))) .bad
   | .ptr m p=>match E.ty t with
    | .arr k e=>cond (isNo (E.ty e)) .bad (.done (some (0<=n/\n<(k:Int))) [] [] (.ptr m (p++[.idx n.toNat (E.sz e) k])))
    | _=>.bad
   | .rp b c l j p=>match E.ty t with
    | .arr k e=>cond (isNo (E.ty e)) .bad (.done (some (0<=n/\n<(k:Int))) [] [] (.rp b c l j (p++[.idx n.toNat (E.sz e) k])))
    | _=>.bad
   | _=>.bad
  | _=>.bad
 | .index t x i=>match s.ev E 0 i,s.ev E t x with
  | .int _ n,.arr c k l=>match E.ty t with
   | .arr k' c'=>cond (Nat.beq k k'&&(Nat.beq c c'&&fits E c (E.enc c (l.getD n.toNat (E.dflt c))))) (.done (some (0<=n/\n<(k:Int))) [] [] (E.enc c (l.getD n.toNat (E.dflt c)))) .bad
   | _=>.bad
  | .int _ n,.str b=>match E.ty t with
   | .str=>.done (some (0<=n/\n<(b.size:Int))) [] [] (.int .u8 (bt b n.toNat))
   | _=>.bad
  | _,_=>.bad
 | .binOp op t x y ty=>match s.ev E t x,s.ev E ty y with
  | .int k a,.int k' c=>(match op with
   | .shl=>.done (some (0<=c)) [] [] (.int k (ishl k a c))
   | .shr=>.done (some (0<=c)) [] [] (.int k (ishr k a c))
   | op=>cond (decide (k=k')) (match intOp op k a c with|some (q,v)=>.done q [] [] v|.none=>.bad) .bad)
  | .str a,.str c=>match strOp op a c with|some (q,v)=>.done q [] [] v|.none=>.bad
  | .bool a,.bool c=>match E.ty t,op with
   | .bool,.eql=>.done .none [] [] (.bool (a==c))
   | .bool,.neq=>.done .none [] [] (.bool (!(a==c)))
   | _,_=>.bad
  | u,.nils c=>nilV E s op t u c y
  | .iv v,.iv .nil=>match E.ty t,y with|.ifc,.const .nilIface=>eqP op (some v.isNil)|_,_=>.bad
  | u,v=>cond (plainTy (E.ty t)) .bad (eqP op (eqV E 20 t u v))
 | .slice t x lo hi mx=>sliceV E s t (s.ev E t x) (lo.map (s.ev E 0)) (hi.map (s.ev E 0)) (mx.map (s.ev E 0))
 | .unOp .not _ x=>match s.ev E 0 x with|.bool c=>.done .none [] [] (.bool (!c))|_=>.bad
 | .unOp .neg _ x=>match s.ev E 0 x with|.int k n=>.done .none [] [] (.int k (k.wrap (0-n)))|_=>.bad
 | .unOp .xor _ x=>match s.ev E 0 x with|.int k n=>.done .none [] [] (.int k (ixor k (cond k.signed (-1) k.max) n))|_=>.bad
 | .convert t d x=>cond (isNo (E.ty t)) .bad (convV E s b t d (s.ev E t x))
 | .makeFunc (.func f) first caps=>cond (Nat.blt f 1000000) (cond (first.isEmpty&&(caps.toList.map fun x=>s.ev E 0 x).all known) (.done .none [] [] (.clo f (caps.toList.map fun x=>s.ev E 0 x)))
   (cond (caps.isEmpty&&(first.toList.map fun x=>s.ev E 0 x).all known) (.done .none [] [] (.clo (f+1000000) (first.toList.map fun x=>s.ev E 0 x))) .bad)) .bad
 | .nilCheck x=>match s.ev E 0 x with
  | .ptr n p=>.done .none [] [] (.ptr n p)
  | .rp b c l i p=>.done .none [] [] (.rp b c l i p)
  | .tr c x p=>.done (some (x.isNil=false)) [] [] (.tr c x p)
  | .clo f caps=>.done .none [] [] (.clo f caps)
  | _=>.bad
 | .makeInterface t x=>match E.ty t,s.ev E t x with
  | .int k,.int k' n=>cond (decide (k'=k)) (.done .none [] [] (.iv (.int t k n))) .bad
  | .str,.str g=>.done .none [] [] (.iv (.str t g))
  | _,_=>.bad
 | .typeAssert x _ t true=>match E.ty t,s.ev E 0 x with
  | .int k,.iv v=>.done (some (v.fitI t k=true)) [] [] (.tup [.int k (v.getI t),.bool (v.isT t)])
  | .str,.iv v=>.done (some (v.fitS t=true)) [] [] (.tup [.str (v.getS t),.bool (v.isT t)])
  | _,_=>.bad
 | .extract x i=>match s.ev E 0 x with|.tup l=>cond (Nat.blt i l.length) (.done .none [] [] (nth l i)) .bad|_=>.bad
 | .build t ps=>match zero E t with
  | .agg z=>match E.ty t with
   | .st fs=>let vals:=ps.toList.map fun p=>s.ev E (fieldTy fs p.1) p.2
    cond (fieldsFit E fs z 0) (match setParts E z ((ps.toList.map (·.1)).zip (kconvs E s.h vals).1) with
    | some l=>.done .none (krds vals) (kconvs E s.h vals).2 (.agg l)
    | .none=>.bad) .bad
   | _=>.bad
  | .arr c n z=>match E.ty t with
   | .arr n' c'=>cond (Nat.beq n n'&&Nat.beq c c') (
   let vals:=ps.toList.map fun p=>s.ev E c p.2
   match setParts E (z.map (E.enc c)) ((ps.toList.map (·.1)).zip (frzs s.h vals)) with
   | some l=>match decs E c l with
    | some l=>cond (holes (frzs s.h vals)||(isNo (E.ty c)||Nat.beq (E.sz c) 0)) .bad (.done .none ((frzNs s.h vals).map (·.1)) (frzNs s.h vals) (.arr c n l))
    | .none=>.bad
   | .none=>.bad) .bad
   | _=>.bad
  | _=>.bad
 | .buildSlice t n ps=>match E.ty t with
  | .sl e=>
   let vals:=ps.toList.map fun p=>s.ev E e p.2
   cond (Nat.beq n 0&&ps.toList.isEmpty) (cond (isNo (E.ty e)) .bad (.done .none [] [(b,.lst e [])] (.own b)))
   (match setParts E ((List.replicate n (E.dflt e)).map (E.enc e)) ((ps.toList.map (·.1)).zip (frzs s.h vals)) with
   | some l=>match decs E e l with
    | some l=>cond (holes (frzs s.h vals)||(isNo (E.ty e)||(Nat.beq (n*E.sz e) 0||Nat.blt 16777216 (n*E.sz e)))) .bad (.done .none ((frzNs s.h vals).map (·.1)) (frzNs s.h vals++[(b,.lst e l)]) (.own b))
    | .none=>.bad
   | .none=>.bad)
  | _=>.bad
 | .call c=>callV E s b c
 | _=>.bad
end
end Go.V

set_option linter.unusedVariables false
namespace Go.V
section
variable {U:Nat->Type}
def apartN(l:List Nat):List Nat->Bool
 | []=>true
 | n::r=>!memN n l&&apartN l r
mutual
def ptrs:A U->List Nat
 | .ptr n _|.yld n=>[n]
 | .agg l|.tup l|.clo _ l=>ptrss l
 | _=>[]
def ptrss:List (A U)->List Nat
 | []=>[]
 | a::l=>ptrs a++ptrss l
end
mutual
def loan:A U->Bool
 | .ro b .. | .clip b .. | .rp b .. => b
 | .agg l|.tup l|.clo _ l=>loans l
 | _=>false
def loans:List (A U)->Bool
 | []=>false
 | a::l=>loan a||loans l
end
variable (E:Env U)
mutual
def inA(h:Nat->AObj U)(L:List Nat):A U->A U
 | .own m=>match h m with
  | .lst c l|.fz c l=>.ro true c l
  | _=>.none
 | .sub m c i len=>match content E h (.sub m c i len) with
  | some ⟨_,c,l⟩=>.ro true c l
  | .none=>.none
 | .bsl m p c N i len=>match content E h (.bsl m p c N i len) with
  | some ⟨_,c,l⟩=>.ro true c l
  | .none=>.none
 | .nils c=>.ro false c []
 | .ptr n p=>.ptr (idxN n L) p
 | .agg l=>.agg (inAs h L l)
 | .clo f l=>.clo f (inAs h L l)
 | .tup _|.none|.usl .. => .none
 | a=>a
def inAs(h:Nat->AObj U)(L:List Nat):List (A U)->List (A U)
 | []=>[]
 | a::l=>inA h L a::inAs h L l
end
mutual
def nameA(L:List Nat)(b:Nat):A U->Nat->A U×(List (Nat×AObj U)×Nat)
 | .usl c l,n=>(.own n,([(n,.lst c l)],n+1))
 | .ptr k p,n=>(.ptr (nthN L k (b+k)) p,([],n))
 | .agg l,n=>let r:=nameAs L b l n;(.agg r.1,r.2)
 | .tup l,n=>let r:=nameAs L b l n;(.tup r.1,r.2)
 | .clo f l,n=>let r:=nameAs L b l n;(.clo f r.1,r.2)
 | a,n=>(a,([],n))
def nameAs(L:List Nat)(b:Nat):List (A U)->Nat->List (A U)×(List (Nat×AObj U)×Nat)
 | [],n=>([],([],n))
 | a::l,n=>
  let r:=nameA L b a n
  let q:=nameAs L b l r.2.2
  (r.1::q.1,(r.2.1++q.2.1,q.2.2))
end
def isBox:AObj U->Bool
 | .box _=>true
 | _=>false
def anyBox(h:Nat->AObj U):List Nat->Bool
 | []=>false
 | m::l=>isBox (h m)||anyBox h l
def isLst:AObj U->Bool
 | .lst .. => true
 | _=>false
def fzOf(h:Nat->AObj U):List Nat->List (Nat×AObj U)
 | []=>[]
 | n::l=>(match h n with|.lst c x=>[(n,.fz c x)]|_=>[])++fzOf h l
abbrev Fn(U:Nat->Type):=List (A U)->List (AObj U)->(A U->List (AObj U)->Prop)->Prop
abbrev Tab(U:Nat->Type):=FuncId->Fn U
abbrev Cut(U:Nat->Type):=FuncId->Nat->Nat->List (A U)->List (AObj U)->(A U->List (AObj U)->Prop)->Prop
mutual
def mapA(g:Nat->Nat):A U->A U
 | .own n=>.own (g n)
 | .sub n c i len=>.sub (g n) c i len
 | .bsl n p c N i len=>.bsl (g n) p c N i len
 | .ptr n p=>.ptr (g n) p
 | .yld n=>.yld (g n)
 | .agg l=>.agg (mapAs g l)
 | .tup l=>.tup (mapAs g l)
 | .clo f l=>.clo f (mapAs g l)
 | a=>a
def mapAs(g:Nat->Nat):List (A U)->List (A U)
 | []=>[]
 | a::l=>mapA g a::mapAs g l
end
def mapO(g:Nat->Nat):AObj U->AObj U
 | .box a=>.box (mapA g a)
 | .lp f id live vals st=>.lp f id live (mapAs g vals) st
 | o=>o
def unr(L:List Nat)(n:Nat)(k:Nat):Nat:=nthN L k (n+(k-L.length))
def wrP(L:List Nat)(n:Nat):Nat->List (AObj U)->List (Nat×AObj U)
 | _,[]=>[]
 | k,o::l=>(unr L n k,mapO (unr L n) o)::wrP L n (k+1) l
def callP(T:Tab U)(b:Nat)(s:S U)(d:Option Nat)(f:FuncId)(args:List (A U))(K:S U->Prop):Prop:=
 cond (args.all known) (match layG s.h b [] args with
  | some x=>cond (Nat.ble x.n (b+100)&&x.L.all fun m=>Nat.blt m x.n||Nat.ble (b+100) m) (T f x.vals x.objs fun r objs=>
    cond (Nat.ble x.L.length objs.length&&Nat.ble (x.n+(objs.length-x.L.length)) (b+100))
     (K (s.put (x.wr++wrP x.L x.n 0 objs) d (mapA (unr x.L x.n) r))) False) False
  | .none=>False) False
def callL(T:Tab U)(b:Nat)(s:S U)(d:Option Nat)(f:FuncId)(args:List (A U))(K:S U->Prop):Prop:=
 let r:=lendAll E s.h args
 cond (holes r.1) False (callP T b { s with h:=upds s.h r.2 } d f r.1 K)
mutual
def agrA:A U->A U->Prop
 | .int k n,.int k' m=>cond (decide (k=k')) (n=m) False
 | .bool a,.bool b=>a=b
 | .str a,.str b=>a=b
 | .nilp,.nilp=>True
 | .nilf,.nilf=>True
 | .agg l,.agg m=>agrAs l m
 | .arr c n l,.arr c' n' m=>cond (Nat.beq n n') (if h:c=c' then (h▸l)=m else False) False
 | .ro b c l,.ro b' c' m=>cond (b==b') (if h:c=c' then (h▸l)=m else False) False
 | .own n,.own m=>cond (Nat.beq n m) True False
 | _,_=>False
def agrAs:List (A U)->List (A U)->Prop
 | [],[]=>True
 | a::l,b::m=>agrA a b/\agrAs l m
 | _,_=>False
end
def agrO:AObj U->AObj U->Prop
 | .dead,.dead=>True
 | .box a,.box b=>agrA a b
 | .lst c l,.lst c' m=>if h:c=c' then (h▸l)=m else False
 | .fz c l,.fz c' m=>if h:c=c' then (h▸l)=m else False
 | _,_=>False
def agrW(h:Nat->AObj U):List (Nat×AObj U)->Prop
 | []=>True
 | x::l=>agrO x.2 (h x.1)/\agrW h l
def callR(T:Tab U)(b:Nat)(s:S U)(d:Option Nat)(f:FuncId)(args:List (A U))(K:S U->Prop):Prop:=
 cond (args.all known) (match layG s.h b [] args with
  | some x=>cond ((x.wr.all fun y=>memN y.1 x.L)&&(Nat.ble x.n (b+100)&&x.L.all fun m=>Nat.blt m x.n||Nat.ble (b+100) m)) (T f x.vals x.objs fun r objs=>
    cond (Nat.ble x.L.length objs.length&&Nat.ble (x.n+(objs.length-x.L.length)) (b+100))
     (agrW s.h (wrP x.L x.n 0 (objs.take x.L.length))/\K (s.put (wrP x.L x.n x.L.length (objs.drop x.L.length)) d (mapA (unr x.L x.n) r))) False) False
  | .none=>False) False
def callK(T:Tab U)(b:Nat)(s:S U)(d:Option Nat)(f:FuncId)(args:List (A U))(K:S U->Prop):Prop:=
 cond (Nat.blt f 1000000) (cond (memN f E.procs) (cond (memN f E.lends) (callL E T b s d f args K) (callP T b s d f args K))
 (let args':=inAs E s.h [] args
 cond ((ptrss args).isEmpty&&!holes args')
  (T f args' [] fun r bs=>match bs with
   | []=>
    let rr:=nameA [] b r b
    cond ((ptrs r).isEmpty&&(Nat.ble rr.2.2 (b+100)&&!(loan r&&anyBox s.h (ownss args))))
     (K (s.put (cond (loan r) (fzOf s.h (ownss args)) []++rr.2.1) d rr.1)) False
   | _=>False)
  False)) (cond (Nat.blt f 2000000) False (cond (Nat.blt (f % 1000000) 1000000&&(memN (f % 1000000) E.procs&&!memN (f % 1000000) E.lends)) (callR T b s d (f % 1000000) args K) False))
def ykey(f:FuncId)(id:Nat):Nat:=1000000*(f+1)+id
def recSt(j:Nat):AObj U->AObj U
 | .lp f id live vals _=>.lp f id live vals j
 | o=>o
def yieldK(T:Tab U)(b:Nat)(s:S U)(d:Option Nat)(n:Nat)(f:FuncId)(id:Nat)(vals args:List (A U))(K:S U->Prop):Prop:=
 cond (args.all known&&Nat.blt id 1000000) (match layG s.h b [] (args++vals) with
  | some x=>cond ((!memN n x.L1&&!memN n x.L)&&(Nat.ble x.n (b+100)&&x.L.all fun m=>Nat.blt m x.n||Nat.ble (b+100) m)) (T (ykey f id) x.vals x.objs fun r objs=>match r with
    | .clo j []=>cond (Nat.ble x.L.length objs.length&&Nat.ble (x.n+(objs.length-x.L.length)) (b+100))
     (K (s.put ((x.wr++wrP x.L x.n 0 objs)++[(n,recSt j (s.h n))]) d (.bool (Nat.beq j 0)))) False
    | _=>False) False
  | .none=>False) False
def S.nm(s:S U)(i:Nat):Nat:=s.nx+100*i
def vop(T:Tab U)(i:Nat)(o:Oper)(s:S U)(K:S U->Prop):Prop:=
 match plan E (s.nm i) o s with
 | .bad=>False
 | .done .none _ wr v=>K (s.put wr o.dst v)
 | .done (some q) _ wr v=>q/\K (s.put wr o.dst v)
 | .call f args _=>callK E T (s.nm i) s o.dst f args K
 | .yield n f id vals args _=>yieldK T (s.nm i) s o.dst n f id vals args K
 | .any q _ neg=>∀ c:Bool,(c=true->q)->K (s.put [] o.dst (.bool (cond neg (!c) c)))
 | .knot b v=>match knotBox 0 v with
  | some _=>∃ g:Int,K (s.put [(b,.box ((knotBox g v).getD v))] o.dst (.ptr b []))
  | .none=>False
def vops(T:Tab U)(ops:List Oper):List (Nat×Oper)->S U->(S U->Prop)->Prop
 | [],s,K=>K s
 | (i,o)::r,s,K=>match o.guard with
  | .none=>vop E T i o s fun s'=>vops T ops r s' K
  | some (j,want)=>match ops[j]? with
   | some og=>match og.dst with
    | some d=>match s.t d with
     | .bool c=>cond c
       (cond want (vop E T i o (s.put [] (some d) (.bool true)) fun s'=>vops T ops r s' K) (vops T ops r ((s.put [] (some d) (.bool true)).put [] o.dst (.tup [])) K))
       (cond want (vops T ops r ((s.put [] (some d) (.bool false)).put [] o.dst (.tup [])) K) (vop E T i o (s.put [] (some d) (.bool false)) fun s'=>vops T ops r s' K))
     | .tup []=>vops T ops r (s.put [] o.dst (.tup [])) K
     | _=>False
    | .none=>False
   | .none=>False
def enum:Nat->List Oper->List (Nat×Oper)
 | _,[]=>[]
 | i,o::l=>(i,o)::enum (i+1) l
def S.done(s:S U)(n:Nat):S U:={ s with nx:=s.nm n }
def soft(o:Oper):Bool:=match o.op with
 | .store .. => false
 | .binOp _ _ _ (.const (.slice .none 0 0)) _=>false
 | .call { callee:=.builtin .len,.. }|.call { callee:=.builtin .max,.. }|.call { callee:=.builtin .min,.. }=>true
 | .call _=>false
 | _=>true
def guardTmp(ops:List Oper)(o:Oper):Option Nat:=match o.guard with
 | some (j,_)=>match ops[j]? with|some og=>og.dst|.none=>.none
 | .none=>.none
def tmpsOf:List Operand->List Nat
 | []=>[]
 | .tmp t::l=>t::tmpsOf l
 | _::l=>tmpsOf l
def uses(ops:List Oper)(o:Oper):List Nat:=
 tmpsOf o.op.operands.toList++(match guardTmp ops o with|some d=>[d]|.none=>[])
def edges:List Edge->List Nat
 | []=>[]
 | e::l=>cond (Region.binds .any e) (e.on::edges l) (edges l)
def allIn(done:List Nat):List Nat->Bool
 | []=>true
 | n::l=>memN n done&&allIn done l
def pick1(kind:Bool)(done:List Nat):List (Nat×Oper)->Option (Nat×Oper)
 | []=>.none
 | (i,o)::l=>cond ((soft o==kind)&&(!memN i done&&allIn done (edges o.after.toList))) (some (i,o)) (pick1 kind done l)
def sched(l:List (Nat×Oper)):(fuel:Nat)->(done:List Nat)->List (Nat×Oper)
 | 0,_=>[]
 | n+1,done=>match pick1 true done l with
  | some x=>x::sched l n (x.1::done)
  | .none=>match pick1 false done l with
   | some x=>x::sched l n (x.1::done)
   | .none=>[]
def forceL{α β:Type}:List α->(List α->β)->β
 | [],k=>k []
 | n::l,k=>forceL l fun l'=>k (n::l')
theorem forceL_eq{α β:Type}:∀ (l:List α) (k:List α->β),forceL l k=k l
 | [],k=>rfl
 | n::l,k=>by rw[forceL,forceL_eq l]
def addNsK{β:Type}:List Nat->List Nat->(List Nat->β)->β
 | l,[],k=>k l
 | l,n::r,k=>forceL (addN l n) fun l'=>addNsK l' r k
theorem addNsK_eq{β:Type}:∀ (r l:List Nat) (k:List Nat->β),addNsK l r k=k (addNs l r)
 | [],l,k=>rfl
 | n::r,l,k=>by rw[addNsK,forceL_eq,addNsK_eq r];rfl
def edgK{β:Type}(acc:List (List Nat)):List Nat->List Nat->(List Nat->β)->β
 | [],s,k=>k s
 | e::l,s,k=>forceL (addN s e) fun s'=>addNsK s' (acc.getD e []) fun s''=>edgK acc l s'' k
theorem edgK_eq{β:Type}(acc:List (List Nat)):∀ (l s:List Nat) (k:List Nat->β),edgK acc l s k=k (l.foldl (fun s e=>addNs (addN s e) (acc.getD e [])) s)
 | [],s,k=>rfl
 | e::l,s,k=>by rw[edgK,forceL_eq,addNsK_eq,edgK_eq acc l];rfl
def befores:List Oper->List (List Nat)->List (List Nat)
 | [],acc=>acc
 | o::l,acc=>edgK acc (edges o.after.toList) [] fun x=>forceL (acc++[x]) fun acc'=>befores l acc'
def befOf(b:List (List Nat))(i:Nat):List Nat:=b.getD i []
def apartT(ops:List Oper)(x y:Oper):Bool:=
 (match x.dst with|some d=>!memN d (uses ops y)&&(match y.dst with|some e=>!Nat.beq d e|.none=>true)|.none=>true) &&
 (match y.dst with|some e=>!memN e (uses ops x)|.none=>true)
def statRow(b:List Nat)(i:Nat)(o:Oper):List (Nat×Oper)->Bool
 | []=>true
 | (j,p)::l=>(cond (Nat.blt j i) (memN j b||(soft p||soft o)) true)&&statRow b i o l
def stat(ops:List Oper):Bool:=
 let l:=enum 0 ops
 let b:=befores ops []
 l.all fun x=>statRow (befOf b x.1) x.1 x.2 l&&((edges x.2.after.toList).all fun n=>Nat.blt n x.1)
def wrOf:Plan U->List Nat
 | .done _ _ wr _=>wr.map (·.1)
 | .call f _ look=>cond (Nat.blt f 2000000) look []
 | .yield _ _ _ _ _ look=>look
 | .bad|.any .. => []
 | .knot b _=>[b]
def lookOf:Plan U->List Nat
 | .done _ rd wr _=>rd++wr.map (·.1)
 | .call _ _ look|.yield _ _ _ _ _ look=>look
 | .any _ rd _=>rd
 | .bad=>[]
 | .knot b _=>[b]
def outs(b:Nat):List Nat->Bool
 | []=>true
 | n::l=>(Nat.blt n b||Nat.ble (b+100) n)&&outs b l
structure Ahead where
 i:Nat
 o:Oper
 look:List Nat
 wr:List Nat
def clear(ops:List Oper)(b:Nat)(bef:List Nat)(o:Oper)(look wr:List Nat):List Ahead->Bool
 | []=>true
 | q::l=>(memN q.i bef||(apartT ops q.o o&&(apartN wr q.look&&(apartN look q.wr&&outs b q.look))))&&clear ops b bef o look wr l
def vopD(T:Tab U)(ops:List Oper)(bef:List (List Nat))(i:Nat)(o:Oper)(acc:List Ahead)(s:S U)(K:List Ahead->S U->Prop):Prop:=
 let p:=plan E (s.nm i) o s
 cond (clear ops (s.nm i) (befOf bef i) o (lookOf p) (wrOf p) acc)
  (vop E T i o s (K (cond (soft o) (acc++[⟨i,o,lookOf p,wrOf p⟩]) acc))) False
def vskip(ops:List Oper)(bef:List (List Nat))(i:Nat)(o:Oper)(acc:List Ahead)(s:S U)(K:List Ahead->S U->Prop):Prop:=
 cond (clear ops (s.nm i) (befOf bef i) o [] [] acc) (K (acc++[⟨i,o,[],[]⟩]) (s.put [] o.dst (.tup []))) False
def vdraw(T:Tab U)(ops:List Oper)(bef:List (List Nat)):List (Nat×Oper)->List Ahead->S U->(S U->Prop)->Prop
 | [],_,s,K=>K s
 | (i,o)::r,acc,s,K=>match o.guard with
  | .none=>vopD E T ops bef i o acc s fun acc' s'=>vdraw T ops bef r acc' s' K
  | some (_,want)=>match guardTmp ops o with
   | some d=>match s.t d with
    | .bool c=>cond c
      (cond want (vopD E T ops bef i o acc (s.put [] (some d) (.bool true)) fun acc' s'=>vdraw T ops bef r acc' s' K)
       (vskip ops bef i o acc (s.put [] (some d) (.bool true)) fun acc' s'=>vdraw T ops bef r acc' s' K))
      (cond want (vskip ops bef i o acc (s.put [] (some d) (.bool false)) fun acc' s'=>vdraw T ops bef r acc' s' K)
       (vopD E T ops bef i o acc (s.put [] (some d) (.bool false)) fun acc' s'=>vdraw T ops bef r acc' s' K))
    | .tup []=>vskip ops bef i o acc s fun acc' s'=>vdraw T ops bef r acc' s' K
    | _=>False
   | .none=>False
def vregion(T:Tab U)(ops:Array Oper)(draw:Bool)(s:S U)(K:S U->Prop):Prop:=
 let l:=ops.toList
 let n:=l.length
 cond draw
  (let o:=sched (enum 0 l) n []
   cond (Nat.beq o.length n) (vdraw E T l (befores l []) o [] s fun s'=>K { s' with nx:=s.nm n }) False)
  (vops E T l (enum 0 l) s fun s'=>K { s' with nx:=s.nm n })
def cutOf(f:FuncId)(id:Nat):List (FuncId×Nat×List Nat)->Option (List Nat)
 | []=>.none
 | (g,i,l)::r=>cond (Nat.beq f g&&Nat.beq i id) (some l) (cutOf f id r)
def untup:A U->A U
 | .tup _=>.none
 | a=>a
def lay(s:S U)(live:List Nat):Option (List (A U)×List (AObj U)):=
 match layG s.h s.nx (upto s.nb) (live.map fun d=>untup (s.t d)) with
 | some x=>some (x.vals,x.objs)
 | .none=>.none
def nthO(l:List (AObj U))(k:Nat):AObj U:=match l,k with
 | [],_=>.dead
 | a::_,0=>a
 | _::l,k+1=>nthO l k
def pairUp(live:List Nat)(vals:List (A U)):Nat->A U:=match live,vals with
 | d::l,v::r=>fun n=>cond (Nat.beq n d) v (pairUp l r n)
 | _,_=>fun _=>.none
def S.ofLay(live:List Nat)(nb:Nat)(vals:List (A U))(objs:List (AObj U)):S U:=
 {t:=pairUp live vals,h:=nthO objs,nx:=objs.length,nb:=nb }
mutual
def outA(h:Nat->AObj U)(L cnt:List Nat):A U->A U
 | .own m=>match h m with
  | .lst c l=>cond (Nat.beq (countN m cnt) 1) (.usl c l) (.ro false c l)
  | .fz c l=>.ro false c l
  | _=>.none
 | .sub .. => .none
 | .bsl .. => .none
 | .nils c=>.usl c []
 | .clip b c l=>.ro b c l
 | .ptr n p=>.ptr (idxN n L) p
 | .agg l=>.agg (outAs h L cnt l)
 | .tup l=>.tup (outAs h L cnt l)
 | .clo f l=>cond (ownss l).isEmpty (.clo f (outAs h L cnt l)) .none
 | .usl .. => .none
 | a=>a
def outAs(h:Nat->AObj U)(L cnt:List Nat):List (A U)->List (A U)
 | []=>[]
 | a::l=>outA h L cnt a::outAs h L cnt l
end
def resV(s:S U):List ResultVar->List (A U)
 | []=>[]
 | .tmp d::l=>s.t d::resV s l
 | .cell d t::l=>(match s.t d with
  | .ptr n p=>let v:=getO E (s.h n) p;cond (fits E t v) v .none
  | _=>.none)::resV s l
def one:List (A U)->A U
 | [a]=>a
 | l=>.tup l
mutual
def holeT:A U->Bool
 | .tup l=>holes l
 | a=>hole a
end
def anyTup:List (A U)->Bool
 | []=>false
 | .tup _::_=>true
 | _::l=>anyTup l
def vretL(f:FuncId)(l:List (A U))(s:S U)(K:A U->List (AObj U)->Prop):Prop:=
 cond (memN f E.procs)
  (cond (l.all known) (match layG s.h s.nx (upto s.nb) l with
   | some x=>K (one x.vals) x.objs
   | .none=>False) False)
  (let r:=one l
   let r':=outA s.h [] (owns r) r
   cond (!holeT r'&&((ptrs r).isEmpty&&!anyTup l)) (K r' []) False)
def vret(f:FuncId)(res:Array ResultVar)(s:S U)(K:A U->List (AObj U)->Prop):Prop:=
 let q:=kconvs E s.h (resV E s res.toList)
 vretL E f q.1 { s with h:=upds s.h q.2 } K
def vend(j:Nat)(s:S U)(K:A U->List (AObj U)->Prop):Prop:=
 match layG s.h s.nx (upto s.nb) [] with
 | some x=>K (.clo j []) x.objs
 | .none=>False
def loopOf(f:FuncId)(id:Nat):List (FuncId×Nat×List Nat)->Option (List Nat)
 | []=>.none
 | (g,i,l)::r=>cond (Nat.beq f g&&Nat.beq i id) (some l) (loopOf f id r)
def firstId:Code->Option Nat
 | .region id _ _=>some id
 | .seq a b|.cond _ a b=>match firstId a with|some i=>some i|.none=>firstId b
 | .block _ c|.loop c|.scope c=>firstId c
 | _=>.none
def lid(a b:Code):Nat:=match firstId a with
 | some i=>i
 | .none=>match firstId b with|some i=>i|.none=>0
def hasBegin:List Item->Bool
 | []=>false
 | .beginRound::_=>true
 | _::k=>hasBegin k
def vrange(T:Tab U)(f:FuncId)(g:Operand)(a b:Code)(s:S U)(K:Nat->S U->Prop):Prop:=
 match s.ev E 0 g with
 | .clo gf caps=>cond (memN gf E.procs&&Nat.blt gf 1000000) (match loopOf f (lid a b) E.loops with
  | some live=>
   callP T (s.nx+1) { s with h:=upd s.h s.nx (.lp f (lid a b) live (live.map fun d=>untup (s.t d)) 0),nx:=s.nx+1 } .none gf (.yld s.nx::caps) fun s'=>
    match s'.h s.nx with
    | .lp _ _ _ _ st=>K st { s' with h:=upd s'.h s.nx .dead,nx:=s.nx+101 }
    | _=>False
  | .none=>False) False
 | _=>False
def vgo(T:Tab U)(C:Cut U)(f:FuncId)(res:Array ResultVar)(K:A U->List (AObj U)->Prop)(rd:Bool):(fuel:Nat)->Bool->List Item->S U->Prop
 | 0,_,_,_=>False
 | n+1,st,todo,s=>match todo with
  | []=>cond rd (vend 0 s K) (vret E f res s K)
  | .inBlock _::k=>vgo T C f res K rd n false k s
  | .inScope _::k=>vgo T C f res K rd n false k s
  | .inLoop c::k=>vgo T C f res K rd n false (.code c::.inLoop c::k) s
  | .beginRound::k=>cond (rd&&!hasBegin k) (vgo T C f res K rd n false k s) False
  | .code c::k=>match c with
   | .skip=>vgo T C f res K rd n false k s
   | .label _=>vgo T C f res K rd n false k s
   | .scope c=>vgo T C f res K rd n st (.code c::.inScope c::k) s
   | .seq a b=>vgo T C f res K rd n st (.code a::.code b::k) s
   | .cond c x y=>match s.ev E 0 c with
    | .bool b=>cond b (vgo T C f res K rd n false (.code x::k) s) (vgo T C f res K rd n false (.code y::k) s)
    | _=>False
   | .block id c=>vgo T C f res K rd n st (.code c::.inBlock id::k) s
   | .loop c=>vgo T C f res K rd n st (.code c::.inLoop c::k) s
   | .exit id=>match exitTo id k with
    | some k'=>cond (hasBegin k==hasBegin k') (vgo T C f res K rd n false k' s) False
    | .none=>cond rd (vend (id+2) s K) False
   | .ret=>cond rd (vend 1 s K) (vret E f res s K)
   | .region id ops draw=>match st,cutOf f id E.cuts with
    | false,some live=>match lay s live with|some x=>C f id s.nb x.1 x.2 K|.none=>False
    | _,_=>vregion E T ops draw s fun s'=>vgo T C f res K rd n false k s'
   | .rangeFunc g ps a b=>vrange E T f g a b s fun j s'=>match j with
    | 0=>vgo T C f res K rd n false k s'
    | 1=>vgo T C f res K rd n false (.code .ret::k) s'
    | j+2=>vgo T C f res K rd n false (.code (.exit j)::k) s'
   | _=>False
  | _=>False
def lkey(a b:Code):Nat:=1000000+lid a b
def ctxs:Code->List Item->List (Nat×List Item)
 | .region id ops d,k=>[(id,.code (.region id ops d)::k)]
 | .seq a b,k=>ctxs a (.code b::k)++ctxs b k
 | .cond _ x y,k=>ctxs x k++ctxs y k
 | .block i c,k=>ctxs c (.inBlock i::k)
 | .scope c,k=>ctxs c (.inScope c::k)
 | .loop c,k=>ctxs c (.inLoop c::k)
 | .rangeFunc g ps a b,k=>[(lkey a b,.code (.rangeFunc g ps a b)::k)]
 | _,_=>[]
def rnds:Code->List (Code×Code)
 | .seq a b|.cond _ a b=>rnds a++rnds b
 | .block _ c|.loop c|.scope c=>rnds c
 | .rangeFunc _ _ a b=>(a,b)::(rnds a++rnds b)
 | _=>[]
def roundT(a b:Code):List Item:=[.code a,.beginRound,.code b]
def roundC:List (Code×Code)->List (Nat×List Item)
 | []=>[]
 | (a,b)::l=>ctxs a [.beginRound,.code b]++(ctxs b []++roundC l)
def ctxOf(id:Nat):List (Nat×List Item)->List Item
 | []=>[]
 | (i,k)::l=>cond (Nat.beq i id) k (ctxOf id l)
def bodyOf(P:Program)(f:FuncId):Code:=match P.funcs[f]? with
 | some fn=>match fn.body with|some c=>c|.none=>.skip
 | .none=>.skip
def resOf(P:Program)(f:FuncId):Array ResultVar:=match P.funcs[f]? with
 | some fn=>fn.results
 | .none => #[]
def S.enter(args:List (A U))(objs:List (AObj U)):S U:=
 {t:=nth args,h:=nthO objs,nx:=objs.length,nb:=objs.length }
def fuel:Nat:=100000
def vfunc(T:Tab U)(C:Cut U)(f:FuncId):Fn U:=fun args objs K=>
 vgo E T C f (resOf E.P f) K false fuel false [.code (bodyOf E.P f)] (S.enter args objs)
def ctxAll(id:Nat)(c:Code):List Item:=ctxOf id (ctxs c []++roundC (rnds c))
def inRd(id:Nat)(c:Code):Bool:=memN id ((roundC (rnds c)).map (·.1))
def vcut(T:Tab U)(C:Cut U)(f:FuncId)(id:Nat)(live:List Nat):Nat->List (A U)->List (AObj U)->(A U->List (AObj U)->Prop)->Prop:=fun nb vals objs K=>
 vgo E T C f (resOf E.P f) K (inRd id (bodyOf E.P f)) fuel true (ctxAll id (bodyOf E.P f)) (S.ofLay live nb vals objs)
def vround(T:Tab U)(C:Cut U)(f:FuncId)(id:Nat):Fn U:=fun args objs K=>
 match ctxAll (1000000+id) (bodyOf E.P f),loopOf f id E.loops with
 | .code (.rangeFunc _ ps a b)::_,some live=>cond (Nat.beq args.length (ps.toList.length+live.length)&&distinctN (ps.toList++live)) (vgo E T C f (resOf E.P f) K true fuel false (roundT a b) (S.ofLay (ps.toList++live) objs.length args objs)) False
 | _,_=>False
end
end Go.V

set_option linter.unusedVariables false
namespace Go.V
variable {U:Nat->Type}
def isAggV:Value->Bool
 | .agg _=>true
 | _=>false
def thereA(q:Prop)(w:World)(b o n:Nat):Prop:=w.there b o n/\(q->∀ j,w.frozen? ⟨b,o+j,none⟩=false)
def fv(f:FuncId)(vs:Array Value):Value:=cond (Nat.blt f 1000000) (.func (.func f) #[] vs) (.func (.func (f % 1000000)) vs #[])
theorem fv_lt{f:FuncId}(h:Nat.blt f 1000000=true)(vs:Array Value):fv f vs=.func (.func f) #[] vs:=by unfold fv;rw[h];rfl
theorem fv_ge{f:FuncId}(h:Nat.blt f 1000000=false)(vs:Array Value):fv f vs=.func (.func (f % 1000000)) vs #[]:=by unfold fv;rw[h];rfl
theorem fv_is(f:FuncId)(vs:Array Value):∃ g a b,fv f vs=.func (.func g) a b:=by
 cases h:Nat.blt f 1000000
 ·exact⟨_,_,_,fv_ge h vs⟩
 ·exact⟨_,_,_,fv_lt h vs⟩
theorem fv_bound(f:FuncId)(hf:Nat.blt f 1000000=true)(vs:Array Value):fv (f+1000000) vs=.func (.func f) vs #[]:=by
 have hm:(f+1000000) % 1000000=f:=by rw[Nat.blt_eq] at hf;rw[Nat.add_mod_right];exact Nat.mod_eq_of_lt hf
 rw[fv_ge,hm]
 cases h:Nat.blt (f+1000000) 1000000 with
 | false=>rfl
 | true=>rw[Nat.blt_eq] at h;omega
theorem fv_agg(f:FuncId)(vs:Array Value):isAggV (fv f vs)=false:=by obtain⟨g,a,b,h⟩:=fv_is f vs;rw[h];rfl
def po:List Step->Nat
 | []=>0
 | .fld _ off::p=>off+po p
 | .idx i e _::p=>i*e+po p
 | .elt i e::p=>i*e+po p
theorem po_append(p q:List Step):po (p++q)=po p+po q:=by
 induction p with
 | nil=>simp[po]
 | cons s p ih=>cases s<;>simp[po,ih]<;>omega
def base:Value->Option (Nat×Nat)
 | .pointer (some ⟨b,o,.none⟩)=>some (b,o)
 | .slice (some ⟨b,o,.none⟩) _ (_+1)=>some (b,o)
 | .func (.yield r) _ _=>some (r,0)
 | _=>.none
def blk(v:Value):Option Nat:=(base v).map (·.1)
def lenV':Value->Nat
 | .slice _ n _=>n
 | _=>0
def vp(L:Nat):List Step->Prop
 | []=>True
 | .fld _ _::p=>vp L p
 | .idx i _ n::p=>i<n/\vp L p
 | .elt i _::p=>i<L/\vp L p
theorem vp_append(L:Nat)(p q:List Step):vp L (p++q)↔vp L p/\vp L q:=by
 induction p with
 | nil=>simp[vp]
 | cons s p ih=>cases s<;>simp[vp,ih,and_assoc]
def KP(St:Ck U->Nat->Prop)(c:Nat)(x:KT (U c))(p:List Step)(v:Value):Prop:=(x=.nil/\p=[]/\v=.pointer .none)\/(x.isNil=false/\vp 0 p/\∃ B,v=.pointer (some ⟨B,po p,.none⟩)/\St (.kn c x) B)
theorem KP.mono{St St':Ck U->Nat->Prop}{c:Nat}{x:KT (U c)}{p:List Step}{v:Value}(h:KP St c x p v)(hS:∀ g b,St g b->St' g b):KP St' c x p v:=
 h.imp id fun ⟨h1,h2,B,h3,h4⟩=>⟨h1,h2,B,h3,hS _ _ h4⟩
def An(St:Ck U->Nat->Prop)(B:Nat):Prop:=∃ g,St g B
def AnR(St:Ck U->Nat->Prop)(B:Nat):Prop:=∃ g:Bool,St (.on g) B
def KnB(St:Ck U->Nat->Prop)(B:Nat):Prop:=∃ c x,St (.kn c x) B
theorem KnB.an{St:Ck U->Nat->Prop}{B:Nat}(h:KnB St B):An St B:=by obtain⟨c,x,h⟩:=h;exact⟨_,h⟩
theorem AnR.an{St:Ck U->Nat->Prop}{B:Nat}(h:AnR St B):An St B:=h.imp' .on fun _ h=>h
def IVR:IV->Value->Prop
 | .nil,v=>v=.nilIface
 | .int t k n,v=>v=.iface t (.int k n)
 | .str t s,v=>v=.iface t (.string s)
 | .ref,v=>∃ t u,v=.iface t u
theorem IVR.shape{x:IV}{v:Value}(h:IVR x v):v=.nilIface\/∃ t u,v=.iface t u:=by
 cases x with
 | nil=>exact .inl h
 | int t k n=>exact .inr ⟨_,_,h⟩
 | str t s=>exact .inr ⟨_,_,h⟩
 | ref=>exact .inr h
inductive RC (E:Env U) (w:World) (St:Ck U->Nat->Prop) (ι:Nat->Option Value):List (A U)->List Value->List Nat->Prop
 | nil:RC E w St ι [] [] []
 | int {k n l cs bs}:RC E w St ι l cs bs->RC E w St ι (.int k n::l) (.int k n::cs) bs
 | bool {b l cs bs}:RC E w St ι l cs bs->RC E w St ι (.bool b::l) (.bool b::cs) bs
 | str {s l cs bs}:RC E w St ι l cs bs->RC E w St ι (.str s::l) (.string s::cs) bs
 | nilp {l cs bs}:RC E w St ι l cs bs->RC E w St ι (.nilp::l) (.pointer .none::cs) bs
 | nilf {l cs bs}:RC E w St ι l cs bs->RC E w St ι (.nilf::l) (.nilFunc::cs) bs
 | agg {m ds bs' l cs bs}:RC E w St ι m ds bs'->RC E w St ι l cs bs->RC E w St ι (.agg m::l) (ds++cs) (bs'++bs)
 | arr {c n xs ds l cs bs}:xs.length=n->RC E w St ι (xs.map (E.enc c)) ds []->RC E w St ι l cs bs->RC E w St ι (.arr c n xs::l) (ds++cs) bs
 | nils {c l cs bs}:RC E w St ι l cs bs->RC E w St ι (.nils c::l) (.slice .none 0 0::cs) bs
 | roE {b c a cap l cs bs}:RC E w St ι l cs bs->RC E w St ι (.ro b c []::l) (.slice a 0 cap::cs) bs
 | ro {b c xs ds B off cap l cs bs}:RC E w St ι (xs.map (E.enc c)) ds []->w.rangeAt B off ds->St (.on b) B->xs.length<=cap →
   RC E w St ι l cs bs->RC E w St ι (.ro b c xs::l) (.slice (some ⟨B,off,.none⟩) xs.length cap::cs) bs
 | clipE {b c a l cs bs}:RC E w St ι l cs bs->RC E w St ι (.clip b c []::l) (.slice a 0 0::cs) bs
 | clip {b c xs ds B off l cs bs}:RC E w St ι (xs.map (E.enc c)) ds []->w.rangeAt B off ds->St (.on b) B →
   RC E w St ι l cs bs->RC E w St ι (.clip b c xs::l) (.slice (some ⟨B,off,.none⟩) xs.length xs.length::cs) bs
 | uslE {c a l cs bs}:RC E w St ι l cs bs->RC E w St ι (.usl c []::l) (.slice a 0 0::cs) bs
 | usl {c xs ds B off cap l cs bs}:RC E w St ι (xs.map (E.enc c)) ds []->w.rangeAt B off ds->thereA (E.ty c≠.int .u8) w B off (cap*E.sz c)->xs.length<=cap->B<w.heap.size →
   RC E w St ι l cs bs->RC E w St ι (.usl c xs::l) (.slice (some ⟨B,off,.none⟩) xs.length cap::cs) (B::bs)
 | own {n a L C l cs bs}:ι n=some (.slice a L C)->RC E w St ι l cs bs->RC E w St ι (.own n::l) (.slice a L C::cs) bs
 | sub {n c i len a a' L C cap l cs bs}:ι n=some (.slice a L C)->i+len<=L->len<=cap->i+cap<=C->(cap=0\/a'=a.map (·.add (i*E.sz c))) →
   RC E w St ι l cs bs->RC E w St ι (.sub n c i len::l) (.slice a' len cap::cs) bs
 | bsl {n p c N i len B a' cap l cs bs}:ι n=some (.pointer (some ⟨B,0,.none⟩))->i+len<=N->len<=cap->i+cap<=N->(cap=0\/a'=some ⟨B,po p+i*E.sz c,.none⟩)->vp 0 p →
   RC E w St ι l cs bs->RC E w St ι (.bsl n p c N i len::l) (.slice a' len cap::cs) bs
 | ptr {n p v B off l cs bs}:ι n=some v->base v=some (B,off)->vp (lenV' v) p->RC E w St ι l cs bs->RC E w St ι (.ptr n p::l) (.pointer (some ⟨B,off+po p,.none⟩)::cs) bs
 | yld {n r l cs bs}:ι n=some (.func (.yield r) #[] #[])->RC E w St ι l cs bs->RC E w St ι (.yld n::l) (.func (.yield r) #[] #[]::cs) bs
 | rp {b c xs i p ds B off l cs bs}:RC E w St ι (xs.map (E.enc c)) ds []->w.rangeAt B off ds->St (.on b) B->i<xs.length->vp 0 p →
   RC E w St ι l cs bs->RC E w St ι (.rp b c xs i p::l) (.pointer (some ⟨B,off+(i*E.sz c+po p),.none⟩)::cs) bs
 | clo {f caps l bs} {vs:Array Value} {cs:List Value}:RC E w St ι caps ((vs.toList.map (·.cells.toList)).flatten) [] →
   vs.toList.map (fun v=>(v.cells.size,isAggV v))=caps.map (fun a=>(size E.sz a,isAgg a)) →
   RC E w St ι l cs bs->RC E w St ι (.clo f caps::l) (fv f vs::cs) bs
 | tr {c x p v l cs bs}:KP St c x p v->RC E w St ι l cs bs->RC E w St ι (.tr c x p::l) (v::cs) bs
 | iv {x v l cs bs}:IVR x v->RC E w St ι l cs bs->RC E w St ι (.iv x::l) (v::cs) bs
 | gh {g l cs bs}:RC E w St ι l cs bs->RC E w St ι (.gh g::l) (.int .u32 0::.int .i32 0::.int .u32 0::cs) bs
mutual
def closed:A U->Bool
 | .int .. | .bool _|.str _|.iv _|.nilp|.nilf|.arr .. | .nils _=>true
 | .agg l|.clo _ l=>closeds l
 | .ro b .. | .clip b .. | .rp b .. => !b
 | _=>false
def closeds:List (A U)->Bool
 | []=>true
 | a::l=>closed a&&closeds l
end
structure EnvOk (E:Env U):Prop where
 clo:∀ c x,closed (E.enc c x)=true
 encSize:∀ c x,size E.sz (E.enc c x)=E.sz c
 decEnc:∀ c a x,E.dec c a=some x->E.enc c x=a
 kdg:∀ g x,closed (E.kn.dg g x)=true
section
variable {E:Env U} {w:World} {St:Ck U->Nat->Prop} {ι:Nat->Option Value}
theorem sizes_append(sz:Nat->Nat)(l m:List (A U)):sizes sz (l++m)=sizes sz l+sizes sz m:=by
 induction l with
 | nil=>simp[sizes]
 | cons a l ih=>simp[sizes,ih];omega
theorem sizes_enc(ok:EnvOk E)(c:Nat)(xs:List (U c)):sizes E.sz (xs.map (E.enc c))=xs.length*E.sz c:=by
 induction xs with
 | nil=>simp[sizes]
 | cons x xs ih=>simp[sizes,ih,ok.encSize,Nat.add_mul];omega
theorem RC.length(ok:EnvOk E){l:List (A U)}{cs:List Value}{bs:List Nat}(h:RC E w St ι l cs bs):cs.length=sizes E.sz l:=by
 induction h with
 | nil=>rfl
 | agg _ _ ih1 ih2=>simp only[List.length_append,sizes,size,ih1,ih2]
 | arr hn _ _ ih1 ih2=>simp only[List.length_append,sizes,size,ih1,ih2,sizes_enc ok,hn]
 | _=>simp only[List.length_cons,sizes,size, *];omega
theorem RC.append{l m:List (A U)}{cs ds:List Value}{bs bs':List Nat}(h:RC E w St ι l cs bs)(h':RC E w St ι m ds bs'):RC E w St ι (l++m) (cs++ds) (bs++bs'):=by
 induction h with
 | nil=>exact h'
 | agg h1 _ _ ih2=>simp only[List.cons_append,List.append_assoc];exact .agg h1 ih2
 | arr hn h1 _ _ ih2=>simp only[List.cons_append,List.append_assoc];exact .arr hn h1 ih2
 | int _ ih=>exact .int ih
 | bool _ ih=>exact .bool ih
 | str _ ih=>exact .str ih
 | nilp _ ih=>exact .nilp ih
 | nilf _ ih=>exact .nilf ih
 | nils _ ih=>exact .nils ih
 | roE _ ih=>exact .roE ih
 | ro h1 h2 h3 h4 _ _ ih=>exact .ro h1 h2 h3 h4 ih
 | clipE _ ih=>exact .clipE ih
 | clip h1 h2 h3 _ _ ih=>exact .clip h1 h2 h3 ih
 | uslE _ ih=>exact .uslE ih
 | usl h1 h2 h3 h4 h5 _ _ ih=>exact .usl h1 h2 h3 h4 h5 ih
 | own h1 _ ih=>exact .own h1 ih
 | sub h1 h2 h3 h4 h5 _ ih=>exact .sub h1 h2 h3 h4 h5 ih
 | bsl h1 h2 h3 h4 h5 h6 _ ih=>exact .bsl h1 h2 h3 h4 h5 h6 ih
 | ptr h1 h2 h3 _ ih=>exact .ptr h1 h2 h3 ih
 | yld h1 _ ih=>exact .yld h1 ih
 | rp h1 h2 h3 h4 h5 _ _ ih=>exact .rp h1 h2 h3 h4 h5 ih
 | clo h1 h2 _ _ ih=>exact .clo h1 h2 ih
 | tr h1 _ ih=>exact .tr h1 ih
 | iv h1 _ ih=>exact .iv h1 ih
 | gh _ ih=>exact .gh ih
theorem RC.cons_inv{a:A U}{l:List (A U)}{cs:List Value}{bs:List Nat}(h:RC E w St ι (a::l) cs bs) :
  ∃ c1 c2 b1 b2,cs=c1++c2/\bs=b1++b2/\RC E w St ι [a] c1 b1/\RC E w St ι l c2 b2:=by
 cases h with
 | agg h1 h2=>exact⟨_,_,_,_,rfl,rfl,by simpa using RC.agg h1 .nil,h2⟩
 | arr hn h1 h2=>exact⟨_,_,[],_,rfl,rfl,by simpa using RC.arr hn h1 .nil,h2⟩
 | int h=>exact⟨[_],_,[],_,rfl,rfl,.int .nil,h⟩
 | bool h=>exact⟨[_],_,[],_,rfl,rfl,.bool .nil,h⟩
 | str h=>exact⟨[_],_,[],_,rfl,rfl,.str .nil,h⟩
 | nilp h=>exact⟨[_],_,[],_,rfl,rfl,.nilp .nil,h⟩
 | nilf h=>exact⟨[_],_,[],_,rfl,rfl,.nilf .nil,h⟩
 | nils h=>exact⟨[_],_,[],_,rfl,rfl,.nils .nil,h⟩
 | roE h=>exact⟨[_],_,[],_,rfl,rfl,.roE .nil,h⟩
 | ro h1 h2 h3 h4 h=>exact⟨[_],_,[],_,rfl,rfl,.ro h1 h2 h3 h4 .nil,h⟩
 | clipE h=>exact⟨[_],_,[],_,rfl,rfl,.clipE .nil,h⟩
 | clip h1 h2 h3 h=>exact⟨[_],_,[],_,rfl,rfl,.clip h1 h2 h3 .nil,h⟩
 | uslE h=>exact⟨[_],_,[],_,rfl,rfl,.uslE .nil,h⟩
 | usl h1 h2 h3 h4 h5 h=>exact⟨[_],_,[_],_,rfl,rfl,.usl h1 h2 h3 h4 h5 .nil,h⟩
 | own h1 h=>exact⟨[_],_,[],_,rfl,rfl,.own h1 .nil,h⟩
 | sub h1 h2 h3 h4 h5 h=>exact⟨[_],_,[],_,rfl,rfl,.sub h1 h2 h3 h4 h5 .nil,h⟩
 | bsl h1 h2 h3 h4 h5 h6 h=>exact⟨[_],_,[],_,rfl,rfl,.bsl h1 h2 h3 h4 h5 h6 .nil,h⟩
 | ptr h1 h2 h3 h=>exact⟨[_],_,[],_,rfl,rfl,.ptr h1 h2 h3 .nil,h⟩
 | yld h1 h=>exact⟨[_],_,[],_,rfl,rfl,.yld h1 .nil,h⟩
 | rp h1 h2 h3 h4 h5 h=>exact⟨[_],_,[],_,rfl,rfl,.rp h1 h2 h3 h4 h5 .nil,h⟩
 | clo h1 h2 h=>exact⟨[_],_,[],_,rfl,rfl,.clo h1 h2 .nil,h⟩
 | tr h1 h=>exact⟨[_],_,[],_,rfl,rfl,.tr h1 .nil,h⟩
 | iv h1 h=>exact⟨[_],_,[],_,rfl,rfl,.iv h1 .nil,h⟩
 | gh h=>exact⟨[_,_,_],_,[],_,rfl,rfl,.gh .nil,h⟩
theorem RC.split{l m:List (A U)}:∀ {cs:List Value} {bs:List Nat},RC E w St ι (l++m) cs bs →
  ∃ c1 c2 b1 b2,cs=c1++c2/\bs=b1++b2/\RC E w St ι l c1 b1/\RC E w St ι m c2 b2:=by
 induction l with
 | nil=>intro cs bs h;exact⟨[],cs,[],bs,rfl,rfl,.nil,h⟩
 | cons a l ih=>
  intro cs bs h
  obtain⟨c1,c2,b1,b2,rfl,rfl,h1,h2⟩:=RC.cons_inv h
  obtain⟨d1,d2,e1,e2,rfl,rfl,h3,h4⟩:=ih h2
  exact⟨c1++d1,d2,b1++e1,e2,by simp,by simp,by simpa using RC.append h1 h3,h4⟩
theorem RC.cons{a:A U}{l:List (A U)}{c1 c2:List Value}{b1 b2:List Nat}(h1:RC E w St ι [a] c1 b1)(h2:RC E w St ι l c2 b2):RC E w St ι (a::l) (c1++c2) (b1++b2):=by
 simpa using RC.append h1 h2
theorem RC.mono{w':World}{St':Ck U->Nat->Prop}{ι':Nat->Option Value}{l:List (A U)}{cs:List Value}{bs:List Nat}(h:RC E w St ι l cs bs)
  (hS:∀ g b,St g b->St' g b) (hι:∀ n v,ι n=some v->ι' n=some v) (hw:∀ b,AnR St b\/b∈bs->w'.heap[b]?=w.heap[b]?) (hsz:w.heap.size<=w'.heap.size):RC E w' St' ι' l cs bs:=by
 have hr:∀ b off ds,AnR St b\/b∈bs->w.rangeAt b off ds->w'.rangeAt b off ds:=by
  intro b off ds hb hr j v hj
  have:=hr j v hj
  simp only[World.cell?] at this ⊢
  rw[hw b hb];exact this
 have ht:∀ (q:Prop) b off n,AnR St b\/b∈bs->thereA q w b off n->thereA q w' b off n:=by
  intro q b off n hb hr
  refine⟨fun j hj=>?_,fun hq j=>?_⟩
  ·have:=hr.1 j hj
   simp only[World.cell?,World.frozen?] at this ⊢
   rw[hw b hb];exact this
  ·have:=hr.2 hq j
   simp only[World.frozen?] at this ⊢
   rw[hw b hb];exact this
 induction h with
 | nil=>exact .nil
 | agg h1 h2 ih1 ih2=>
  refine .agg (ih1 (fun b hb=>hw b (hb.imp id fun h=>List.mem_append_left _ h)) (fun b o d hb=>hr b o d (hb.imp id fun h=>List.mem_append_left _ h)) (fun q b o d hb=>ht q b o d (hb.imp id fun h=>List.mem_append_left _ h)))
   (ih2 (fun b hb=>hw b (hb.imp id fun h=>List.mem_append_right _ h)) (fun b o d hb=>hr b o d (hb.imp id fun h=>List.mem_append_right _ h)) (fun q b o d hb=>ht q b o d (hb.imp id fun h=>List.mem_append_right _ h)))
 | arr hn h1 h2 ih1 ih2=>
  exact .arr hn (ih1 (fun b hb=>hw b (hb.imp id fun h=>absurd h (by simp))) (fun b o d hb=>hr b o d (hb.imp id fun h=>absurd h (by simp))) (fun q b o d hb=>ht q b o d (hb.imp id fun h=>absurd h (by simp)))) (ih2 hw hr ht)
 | int _ ih=>exact .int (ih hw hr ht)
 | bool _ ih=>exact .bool (ih hw hr ht)
 | str _ ih=>exact .str (ih hw hr ht)
 | nilp _ ih=>exact .nilp (ih hw hr ht)
 | nilf _ ih=>exact .nilf (ih hw hr ht)
 | nils _ ih=>exact .nils (ih hw hr ht)
 | roE _ ih=>exact .roE (ih hw hr ht)
 | ro h1 h2 h3 h4 _ ih1 ih=>exact .ro (ih1 (fun b hb=>hw b (hb.imp id fun h=>absurd h (by simp))) (fun b o d hb=>hr b o d (hb.imp id fun h=>absurd h (by simp))) (fun q b o d hb=>ht q b o d (hb.imp id fun h=>absurd h (by simp)))) (hr _ _ _ (.inl ⟨_,h3⟩) h2) (hS _ _ h3) h4 (ih hw hr ht)
 | clipE _ ih=>exact .clipE (ih hw hr ht)
 | clip h1 h2 h3 _ ih1 ih=>exact .clip (ih1 (fun b hb=>hw b (hb.imp id fun h=>absurd h (by simp))) (fun b o d hb=>hr b o d (hb.imp id fun h=>absurd h (by simp))) (fun q b o d hb=>ht q b o d (hb.imp id fun h=>absurd h (by simp)))) (hr _ _ _ (.inl ⟨_,h3⟩) h2) (hS _ _ h3) (ih hw hr ht)
 | uslE _ ih=>exact .uslE (ih hw hr ht)
 | usl h1 h2 h3 h4 h5 _ ih1 ih=>
  exact .usl (ih1 (fun b hb=>hw b (hb.imp id fun h=>absurd h (by simp))) (fun b o d hb=>hr b o d (hb.imp id fun h=>absurd h (by simp))) (fun q b o d hb=>ht q b o d (hb.imp id fun h=>absurd h (by simp)))) (hr _ _ _ (.inr (by simp)) h2) (ht _ _ _ _ (.inr (by simp)) h3) h4 (by omega)
   (ih (fun b hb=>hw b (hb.imp id fun h=>List.mem_cons_of_mem _ h)) (fun b o d hb=>hr b o d (hb.imp id fun h=>List.mem_cons_of_mem _ h)) (fun q b o d hb=>ht q b o d (hb.imp id fun h=>List.mem_cons_of_mem _ h)))
 | own h1 _ ih=>exact .own (hι _ _ h1) (ih hw hr ht)
 | sub h1 h2 h3 h4 h5 _ ih=>exact .sub (hι _ _ h1) h2 h3 h4 h5 (ih hw hr ht)
 | bsl h1 h2 h3 h4 h5 h6 _ ih=>exact .bsl (hι _ _ h1) h2 h3 h4 h5 h6 (ih hw hr ht)
 | ptr h1 h2 h3 _ ih=>exact .ptr (hι _ _ h1) h2 h3 (ih hw hr ht)
 | yld h1 _ ih=>exact .yld (hι _ _ h1) (ih hw hr ht)
 | rp h1 h2 h3 h4 h5 _ ih1 ih=>exact .rp (ih1 (fun b hb=>hw b (hb.imp id fun h=>absurd h (by simp))) (fun b o d hb=>hr b o d (hb.imp id fun h=>absurd h (by simp))) (fun q b o d hb=>ht q b o d (hb.imp id fun h=>absurd h (by simp)))) (hr _ _ _ (.inl ⟨_,h3⟩) h2) (hS _ _ h3) h4 h5 (ih hw hr ht)
 | clo h1 h2 _ ih1 ih=>exact .clo (ih1 (fun b hb=>hw b (hb.imp id fun h=>absurd h (by simp))) (fun b o d hb=>hr b o d (hb.imp id fun h=>absurd h (by simp))) (fun q b o d hb=>ht q b o d (hb.imp id fun h=>absurd h (by simp)))) h2 (ih hw hr ht)
 | tr h1 _ ih=>exact .tr (h1.mono hS) (ih hw hr ht)
 | iv h1 _ ih=>exact .iv h1 (ih hw hr ht)
 | gh _ ih=>exact .gh (ih hw hr ht)
theorem RC.oneCell{l:List (A U)}{cs:List Value}{bs:List Nat}(h:RC E w St ι l cs bs):∀ v∈cs,v.oneCell'=true:=by
 induction h with
 | nil=>simp
 | agg _ _ ih1 ih2=>intro v hv;rcases List.mem_append.1 hv with h|h;exact ih1 v h;exact ih2 v h
 | arr _ _ _ ih1 ih2=>intro v hv;rcases List.mem_append.1 hv with h|h;exact ih1 v h;exact ih2 v h
 | ro _ _ _ _ _ _ ih=>intro v hv;rcases List.mem_cons.1 hv with h|h;(subst h;rfl);exact ih v h
 | clip _ _ _ _ _ ih=>intro v hv;rcases List.mem_cons.1 hv with h|h;(subst h;rfl);exact ih v h
 | usl _ _ _ _ _ _ _ ih=>intro v hv;rcases List.mem_cons.1 hv with h|h;(subst h;rfl);exact ih v h
 | rp _ _ _ _ _ _ _ ih=>intro v hv;rcases List.mem_cons.1 hv with h|h;(subst h;rfl);exact ih v h
 | @clo f _ _ _ vs _ _ _ _ _ ih=>intro v hv;rcases List.mem_cons.1 hv with h|h;(subst h;obtain⟨g,a,b,h⟩:=fv_is f vs;rw[h];rfl);exact ih v h
 | own _ _ ih=>intro v hv;rcases List.mem_cons.1 hv with h|h;(subst h;rfl);exact ih v h
 | sub _ _ _ _ _ _ ih=>intro v hv;rcases List.mem_cons.1 hv with h|h;(subst h;rfl);exact ih v h
 | bsl _ _ _ _ _ _ _ ih=>intro v hv;rcases List.mem_cons.1 hv with h|h;(subst h;rfl);exact ih v h
 | ptr _ _ _ _ ih=>intro v hv;rcases List.mem_cons.1 hv with h|h;(subst h;rfl);exact ih v h
 | yld _ _ ih=>intro v hv;rcases List.mem_cons.1 hv with h|h;(subst h;rfl);exact ih v h
 | int _ ih|bool _ ih|str _ ih|nilp _ ih|nilf _ ih|nils _ ih|roE _ ih|clipE _ ih|uslE _ ih=>intro v hv;rcases List.mem_cons.1 hv with h|h;(subst h;rfl);exact ih v h
 | iv h1 _ ih=>
  intro v hv
  rcases List.mem_cons.1 hv with h|h
  ·subst h;rcases h1.shape with rfl|⟨t,u,rfl⟩<;>rfl
  ·exact ih v h
 | tr h1 _ ih=>
  intro v hv
  rcases List.mem_cons.1 hv with h|h
  ·subst h;rcases h1 with ⟨-,-,rfl⟩|⟨-,-,B,rfl,-⟩<;>rfl
  ·exact ih v h
 | gh _ ih=>
  intro v hv
  simp only[List.mem_cons] at hv
  rcases hv with rfl|rfl|rfl|h
  ·rfl
  ·rfl
  ·rfl
  ·exact ih v h
theorem RC.elem(ok:EnvOk E){c:Nat}{xs:List (U c)}{ds:List Value}(h:RC E w St ι (xs.map (E.enc c)) ds []){i:Nat}(hi:i<xs.length) :
  RC E w St ι [E.enc c (xs.getD i (E.dflt c))] ((ds.drop (i*E.sz c)).take (E.sz c)) []/\(i+1)*E.sz c<=ds.length:=by
 have hx:xs=xs.take i++xs[i]::xs.drop (i+1):=by simp
 have hg:xs.getD i (E.dflt c)=xs[i]:=by simp[List.getD,hi]
 have h0:=h.length ok
 rw[sizes_enc ok] at h0
 rw[hx,List.map_append,List.map_cons] at h
 obtain⟨c1,c2,b1,b2,rfl,hb,h1,h2⟩:=RC.split h
 obtain⟨d1,d2,e1,e2,rfl,he,h3,h4⟩:=RC.cons_inv h2
 have hb1:b1=[]/\b2=[]:=by simpa using hb.symm
 obtain⟨rfl,rfl⟩:=hb1
 have he1:e1=[]/\e2=[]:=by simpa using he.symm
 obtain⟨rfl,rfl⟩:=he1
 have l1:=h1.length ok
 have l3:=h3.length ok
 rw[sizes_enc ok,List.length_take,Nat.min_eq_left (by omega)] at l1
 simp only[sizes,ok.encSize,Nat.add_zero] at l3
 rw[hg,List.drop_append,List.drop_of_length_le (by omega),<-l1,Nat.sub_self,List.drop_zero,List.nil_append,<-l3,List.take_append,Nat.sub_self,List.take_zero,List.append_nil,List.take_of_length_le (Nat.le_refl _)]
 refine⟨h3,?_⟩
 rw[Nat.add_mul,l3,<-l1]
 simp only[List.length_append,l3]
 omega
theorem nth_eq(l:List (A U))(k:Nat):nth l k=l.getD k .none:=by
 induction l generalizing k with
 | nil=>simp[nth]
 | cons a l ih=>cases k<;>simp[nth,ih]
theorem nil_or{b1 b2:List Nat}(h:[]=b1++b2):b1=[]/\b2=[]:=by simpa using h.symm
theorem RC.part(ok:EnvOk E){l:List (A U)}{ds:List Value}(h:RC E w St ι l ds []){k:Nat}(hk:k<l.length) :
  RC E w St ι [nth l k] ((ds.drop (sizes E.sz (l.take k))).take (size E.sz (nth l k))) []/\sizes E.sz (l.take k)+size E.sz (nth l k)<=ds.length:=by
 have hx:l=l.take k++l[k]::l.drop (k+1):=by simp
 have hg:nth l k=l[k]:=by simp[nth_eq,List.getD,hk]
 rw[hx] at h
 obtain⟨c1,c2,b1,b2,rfl,hb,h1,h2⟩:=RC.split h
 obtain⟨d1,d2,e1,e2,rfl,he,h3,h4⟩:=RC.cons_inv h2
 obtain⟨rfl,rfl⟩:=nil_or hb
 obtain⟨rfl,rfl⟩:=nil_or he
 have l1:=h1.length ok
 have l3:=h3.length ok
 simp only[sizes,Nat.add_zero] at l3
 rw[hg,<-l1,<-l3,List.drop_append,List.drop_of_length_le (Nat.le_refl _),Nat.sub_self,List.drop_zero,List.nil_append,List.take_append,Nat.sub_self,List.take_zero,List.append_nil,List.take_of_length_le (Nat.le_refl _)]
 exact⟨h3,by simp only[List.length_append];omega⟩
theorem known_nth{l:List (A U)}{k:Nat}(h:l.length<=k):nth l k=.none:=by simp[nth_eq,List.getD,h]
theorem getP_none(p:List Step):getP E (.none:A U) p=.none:=by
 cases p with
 | nil=>rfl
 | cons s p=>cases s<;>rfl
theorem RC.agg_inv{m:List (A U)}{cs:List Value}{bs:List Nat}(h:RC E w St ι [.agg m] cs bs):RC E w St ι m cs bs:=by
 cases h with
 | agg h1 h2=>cases h2;simpa using h1
theorem RC.arr_inv{c n:Nat}{xs:List (U c)}{cs:List Value}{bs:List Nat}(h:RC E w St ι [.arr c n xs] cs bs):xs.length=n/\RC E w St ι (xs.map (E.enc c)) cs []/\bs=[]:=by
 cases h with
 | arr h0 h1 h2=>cases h2;exact⟨h0,by simpa using h1,rfl⟩
theorem RC.getP(ok:EnvOk E):∀ (p:List Step) {a:A U} {cs:List Value} {L:Nat},RC E w St ι [a] cs []->vp L p->known (getP E a p)=true →
  RC E w St ι [getP E a p] ((cs.drop (po p)).take (size E.sz (getP E a p))) []/\po p+size E.sz (getP E a p)<=cs.length:=by
 intro p
 induction p with
 | nil=>
  intro a cs L h _ _
  have hl:=h.length ok
  simp only[sizes,Nat.add_zero] at hl
  simp only[V.getP,po,List.drop_zero,Nat.zero_add]
  rw[List.take_of_length_le (by omega)]
  exact⟨h,by omega⟩
 | cons s p ih=>
  intro a cs L h hv hk
  cases a with
  | agg l=>
   cases s with
   | fld k off=>
    simp only[V.getP] at hk ⊢
    cases hb:Nat.beq (sizes E.sz (l.take k)) off with
    | false=>rw[hb] at hk;simp[known] at hk
    | true=>
     rw[hb] at hk
     simp only[cond_true] at hk ⊢
     have ho:=Nat.eq_of_beq_eq_true hb
     have h1:=h.agg_inv
     by_cases hkl:k<l.length
     ·obtain⟨q1,q2⟩:=RC.part ok h1 hkl
      obtain⟨r1,r2⟩:=ih q1 hv hk
      have hlen:=q1.length ok
      simp only[sizes,Nat.add_zero] at hlen
      rw[hlen] at r2
      simp only[po]
      rw[ho] at r1 q2
      rw[List.drop_take,List.drop_drop,List.take_take,Nat.min_eq_left (by omega)] at r1
      exact⟨r1,by omega⟩
     ·rw[known_nth (by omega),getP_none] at hk;simp[known] at hk
   | _=>simp[V.getP,known] at hk
  | arr c n l=>
   cases s with
   | idx i e m=>
    simp only[V.getP] at hk ⊢
    cases hb:(Nat.beq (E.sz c) e&&Nat.beq n m) with
    | false=>rw[hb] at hk;simp[known] at hk
    | true=>
     rw[hb] at hk
     simp only[cond_true] at hk ⊢
     simp only[Bool.and_eq_true] at hb
     have he:=Nat.eq_of_beq_eq_true hb.1
     have hm:=Nat.eq_of_beq_eq_true hb.2
     obtain⟨hn,h1,-⟩:=h.arr_inv
     obtain⟨q1,q2⟩:=RC.elem ok h1 (i:=i) (by have:=hv.1;omega)
     obtain⟨r1,r2⟩:=ih q1 hv.2 hk
     have hlen:=q1.length ok
     simp only[sizes,ok.encSize,Nat.add_zero] at hlen
     rw[hlen] at r2
     simp only[po]
     rw[List.drop_take,List.drop_drop,List.take_take,Nat.min_eq_left (by omega)] at r1
     rw[Nat.add_mul] at q2
     subst he
     exact⟨r1,by omega⟩
   | _=>simp[V.getP,known] at hk
  | _=>cases s<;>simp[V.getP,known] at hk
theorem take_mid{α:Type}{c1 c2 c3:List α}{n q:Nat}(h:c1.length=n)(hq:q<=c2.length):(c1++(c2++c3)).take (n+q)=c1++c2.take q:=by
 subst h
 rw[List.take_append,List.take_of_length_le (by omega),Nat.add_sub_cancel_left,List.take_append_of_le_length hq]
theorem drop_mid{α:Type}{c1 c2 c3:List α}{n q:Nat}(h:c1.length=n)(hq:q<=c2.length):(c1++(c2++c3)).drop (n+q)=c2.drop q++c3:=by
 subst h
 rw[List.drop_append,List.drop_of_length_le (by omega),Nat.add_sub_cancel_left,List.nil_append,List.drop_append_of_le_length hq]
theorem RC.parts(ok:EnvOk E){l:List (A U)}{ds:List Value}(h:RC E w St ι l ds []){k:Nat}(hk:k<l.length) :
  ∃ c1 c2 c3,ds=c1++(c2++c3)/\RC E w St ι (l.take k) c1 []/\RC E w St ι [nth l k] c2 []/\RC E w St ι (l.drop (k+1)) c3 []/\c1.length=sizes E.sz (l.take k):=by
 have hx:l=l.take k++l[k]::l.drop (k+1):=by simp
 have hg:nth l k=l[k]:=by simp[nth_eq,List.getD,hk]
 rw[hx] at h
 obtain⟨c1,c2,b1,b2,rfl,hb,h1,h2⟩:=RC.split h
 obtain⟨d1,d2,e1,e2,rfl,he,h3,h4⟩:=RC.cons_inv h2
 obtain⟨rfl,rfl⟩:=nil_or hb
 obtain⟨rfl,rfl⟩:=nil_or he
 exact⟨c1,d1,d2,rfl,h1,hg▸h3,h4,h1.length ok⟩
theorem RC.elems(ok:EnvOk E){c:Nat}{xs:List (U c)}{ds:List Value}(h:RC E w St ι (xs.map (E.enc c)) ds []){i:Nat}(hi:i<xs.length) :
  ∃ c1 c2 c3,ds=c1++(c2++c3)/\RC E w St ι ((xs.take i).map (E.enc c)) c1 []/\RC E w St ι [E.enc c (xs.getD i (E.dflt c))] c2 []/\RC E w St ι ((xs.drop (i+1)).map (E.enc c)) c3 [] ∧
   c1.length=i*E.sz c/\c2.length=E.sz c:=by
 have hk:i<(xs.map (E.enc c)).length:=by simpa using hi
 obtain⟨c1,c2,c3,rfl,h1,h2,h3,h4⟩:=h.parts ok hk
 have hg:nth (xs.map (E.enc c)) i=E.enc c (xs.getD i (E.dflt c)):=by simp[nth_eq,List.getD,hi]
 rw[hg] at h2
 rw[<-List.map_take] at h1 h4
 rw[<-List.map_drop] at h3
 rw[sizes_enc ok,List.length_take,Nat.min_eq_left (by omega)] at h4
 have:=h2.length ok
 simp only[sizes,ok.encSize,Nat.add_zero] at this
 exact⟨c1,c2,c3,rfl,h1,h2,h3,h4,this⟩
theorem set_cut{α:Type}(l:List α)(k:Nat)(x:α)(h:k<l.length):l.set k x=l.take k++x::l.drop (k+1):=by
 rw[List.set_eq_take_append_cons_drop,if_pos h]
theorem RC.setP(ok:EnvOk E):∀ (p:List Step) {a a' v:A U} {cs ds:List Value} {L:Nat},RC E w St ι [a] cs []->vp L p->setP E a p v=some a'->RC E w St ι [v] ds [] →
  RC E w St ι [a'] (cs.take (po p)++(ds++cs.drop (po p+ds.length))) []/\po p+ds.length<=cs.length/\size E.sz a'=size E.sz a/\isAgg a'=isAgg a/\known a'=true:=by
 intro p
 induction p with
 | nil=>
  intro a a' v cs ds L h _ hs hv
  simp only[V.setP] at hs
  cases hb:(Nat.beq (size E.sz a) (size E.sz v)&&(known v&&(isAgg a==isAgg v))) with
  | false=>rw[hb] at hs;simp at hs
  | true=>
   rw[hb] at hs
   simp only[cond_true,Option.some.injEq] at hs
   subst hs
   simp only[Bool.and_eq_true] at hb
   have h1:=Nat.eq_of_beq_eq_true hb.1
   have h2:=h.length ok
   have h3:=hv.length ok
   simp only[sizes,Nat.add_zero] at h2 h3
   simp only[po,List.take_zero,List.nil_append,Nat.zero_add]
   rw[List.drop_of_length_le (by omega),List.append_nil]
   exact⟨hv,by omega,h1.symm,(beq_iff_eq.1 hb.2.2).symm,hb.2.1⟩
 | cons s p ih=>
  intro a a' v cs ds L h hp hs hv
  cases a with
  | agg l=>
   cases s with
   | fld k off=>
    simp only[V.setP] at hs
    cases hb:(Nat.beq (sizes E.sz (l.take k)) off&&Nat.blt k l.length) with
    | false=>rw[hb] at hs;simp at hs
    | true=>
     rw[hb] at hs
     simp only[cond_true] at hs
     simp only[Bool.and_eq_true] at hb
     have ho:=Nat.eq_of_beq_eq_true hb.1
     have hk:k<l.length:=Nat.le_of_ble_eq_true hb.2
     cases hx:V.setP E (nth l k) p v with
     | none=>rw[hx] at hs;simp at hs
     | some x=>
      rw[hx] at hs
      simp only[Option.some.injEq] at hs
      subst hs
      obtain⟨c1,c2,c3,rfl,h1,h2,h3,h4⟩:=h.agg_inv.parts ok hk
      obtain⟨q1,q2,q3,q4,q5⟩:=ih h2 hp hx hv
      simp only[po]
      rw[<-ho,Nat.add_assoc,take_mid h4 (by omega),drop_mid h4 q2]
      refine⟨?_,by simp only[List.length_append];omega,?_,rfl,rfl⟩
      ·rw[set_cut l k x hk]
       have:=RC.append h1 (RC.cons q1 h3)
       simp only[List.append_nil,List.append_assoc] at this ⊢
       simpa using RC.agg this .nil
      ·simp only[size]
       have hx:l=l.take k++nth l k::l.drop (k+1):=by rw[nth_eq,List.getD,List.getElem?_eq_getElem hk];simp
       rw[set_cut l k x hk]
       conv=>rhs;rw[hx]
       simp only[sizes_append,sizes,q3]
   | _=>simp[V.setP] at hs
  | arr c n l=>
   cases s with
   | idx i e m=>
    simp only[V.setP] at hs
    cases hb:(Nat.beq (E.sz c) e&&Nat.beq n m) with
    | false=>rw[hb] at hs;simp at hs
    | true=>
     rw[hb] at hs
     simp only[cond_true] at hs
     simp only[Bool.and_eq_true] at hb
     have he:=Nat.eq_of_beq_eq_true hb.1
     have hm:=Nat.eq_of_beq_eq_true hb.2
     cases hx:V.setP E (E.enc c (l.getD i (E.dflt c))) p v with
     | none=>rw[hx] at hs;simp at hs
     | some x=>
      rw[hx] at hs
      cases hy:E.dec c x with
      | none=>simp[hy] at hs
      | some y=>
       simp only[hy,Option.some.injEq] at hs
       subst hs
       obtain⟨hn,h0,-⟩:=h.arr_inv
       have hi:i<l.length:=by have:=hp.1;omega
       obtain⟨c1,c2,c3,rfl,h1,h2,h3,h4,h5⟩:=h0.elems ok hi
       obtain⟨q1,q2,q3,q4,q5⟩:=ih h2 hp.2 hx hv
       simp only[po]
       subst he
       rw[Nat.add_assoc,take_mid h4 (by omega),drop_mid h4 q2]
       refine⟨?_,by simp only[List.length_append];omega,by simp[size],rfl,rfl⟩
       have hxy:=ok.decEnc c x y hy
       rw[<-hxy] at q1
       have:=RC.append h1 (RC.cons q1 h3)
       simp only[List.append_nil,List.append_assoc] at this ⊢
       have hm:(l.set i y).map (E.enc c)=(l.take i).map (E.enc c)++E.enc c y::(l.drop (i+1)).map (E.enc c):=by rw[set_cut l i y hi];simp
       rw[<-hm] at this
       simpa using RC.arr (by simpa using hn) this .nil
   | _=>simp[V.setP] at hs
  | _=>cases s<;>simp[V.setP] at hs
theorem closeds_enc(ok:EnvOk E)(c:Nat)(xs:List (U c)):closeds (xs.map (E.enc c))=true:=by
 induction xs with
 | nil=>rfl
 | cons x xs ih=>simp[closeds,ok.clo,ih]
theorem RC.closed(ok:EnvOk E){St':Ck U->Nat->Prop}{ι':Nat->Option Value}(hS:∀ B,St (.on false) B->St' (.on false) B){l:List (A U)}{cs:List Value}{bs:List Nat}(h:RC E w St ι l cs bs):closeds l=true->RC E w St' ι' l cs bs:=by
 induction h with
 | nil=>intro _;exact .nil
 | int _ ih=>intro hc;simp only[closeds,V.closed,Bool.true_and] at hc;exact .int (ih hc)
 | bool _ ih=>intro hc;simp only[closeds,V.closed,Bool.true_and] at hc;exact .bool (ih hc)
 | str _ ih=>intro hc;simp only[closeds,V.closed,Bool.true_and] at hc;exact .str (ih hc)
 | nilp _ ih=>intro hc;simp only[closeds,V.closed,Bool.true_and] at hc;exact .nilp (ih hc)
 | nilf _ ih=>intro hc;simp only[closeds,V.closed,Bool.true_and] at hc;exact .nilf (ih hc)
 | agg _ _ ih1 ih2=>intro hc;simp only[closeds,V.closed,Bool.and_eq_true] at hc;exact .agg (ih1 hc.1) (ih2 hc.2)
 | arr hn _ _ ih1 ih2=>intro hc;simp only[closeds,V.closed,Bool.true_and] at hc;exact .arr hn (ih1 (closeds_enc ok _ _)) (ih2 hc)
 | nils _ ih=>intro hc;simp only[closeds,V.closed,Bool.true_and] at hc;exact .nils (ih hc)
 | roE _ ih=>intro hc;simp only[closeds,Bool.and_eq_true] at hc;exact .roE (ih hc.2)
 | @ro g _ _ _ _ _ _ _ _ _ _ h2 h3 h4 _ ih1 ih=>
  intro hc
  simp only[closeds,V.closed,Bool.and_eq_true,Bool.not_eq_true'] at hc
  obtain⟨h0,hc⟩:=hc
  subst h0
  exact .ro (ih1 (closeds_enc ok _ _)) h2 (hS _ h3) h4 (ih hc)
 | clipE _ ih=>intro hc;simp only[closeds,Bool.and_eq_true] at hc;exact .clipE (ih hc.2)
 | @clip g _ _ _ _ _ _ _ _ _ h2 h3 _ ih1 ih=>
  intro hc
  simp only[closeds,V.closed,Bool.and_eq_true,Bool.not_eq_true'] at hc
  obtain⟨h0,hc⟩:=hc
  subst h0
  exact .clip (ih1 (closeds_enc ok _ _)) h2 (hS _ h3) (ih hc)
 | uslE _ _=>intro hc;simp[closeds,V.closed] at hc
 | usl _ _ _ _ _ _ _ _=>intro hc;simp[closeds,V.closed] at hc
 | own _ _ _=>intro hc;simp[closeds,V.closed] at hc
 | sub _ _ _ _ _ _ _=>intro hc;simp[closeds,V.closed] at hc
 | bsl _ _ _ _ _ _ _ _=>intro hc;simp[closeds,V.closed] at hc
 | ptr _ _ _ _ _=>intro hc;simp[closeds,V.closed] at hc
 | yld _ _ _=>intro hc;simp[closeds,V.closed] at hc
 | @rp g _ _ _ _ _ _ _ _ _ _ _ h2 h3 h4 h5 _ ih1 ih=>
  intro hc
  simp only[closeds,V.closed,Bool.and_eq_true,Bool.not_eq_true'] at hc
  obtain⟨h0,hc⟩:=hc
  subst h0
  exact .rp (ih1 (closeds_enc ok _ _)) h2 (hS _ h3) h4 h5 (ih hc)
 | clo _ h2 _ ih1 ih=>intro hc;simp only[closeds,V.closed,Bool.and_eq_true] at hc;exact .clo (ih1 hc.1) h2 (ih hc.2)
 | tr _ _ _=>intro hc;simp[closeds,V.closed] at hc
 | iv h1 _ ih=>intro hc;simp only[closeds,V.closed,Bool.true_and] at hc;exact .iv h1 (ih hc)
 | gh _ _=>intro hc;simp[closeds,V.closed] at hc
theorem RC.encs(ok:EnvOk E){St':Ck U->Nat->Prop}{ι':Nat->Option Value}(hS:∀ B,St (.on false) B->St' (.on false) B){c:Nat}{xs:List (U c)}{cs:List Value}(h:RC E w St ι (xs.map (E.enc c)) cs []):RC E w St' ι' (xs.map (E.enc c)) cs []:=
 h.closed ok hS (closeds_enc ok c xs)
end
end Go.V
