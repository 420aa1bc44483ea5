/- V: VEnvOk, VSeat, VOpen, VTop, VLaid, VLib, VShaM, VPathM -/
import Derived.Test.YtgeonfbhejigjaaGreatDoorVJ08
import Derived.ChangeArms
import Derived.OpenShut
import Derived.WideShapes
import Derived.WideKeyArgs
import Derived.ChangeSame
import Derived.ChangeAt
import Derived.RowKit
import Derived.ChangeCalls
import Derived.ChangeOld
import Derived.Carry
import Derived.MakeChecks
import Derived.LaidMore
set_option linter.unusedVariables false
set_option linter.unusedSimpArgs false
namespace Go.V
variable {U:Nat->Type}
def zcells(E:Env U):(fuel:Nat)->List (A U)->List Value->Option (List Value)
 | 0,_,_=>.none
 | n+1,l,cs=>match l with
  | []=>some cs
  | .int k x::l=>match cs with
   | .int k' y::cs=>cond (decide (k=k')&&decide (x=y)) (zcells E n l cs) .none
   | _=>.none
  | .bool x::l=>match cs with
   | .bool y::cs=>cond (x==y) (zcells E n l cs) .none
   | _=>.none
  | .str x::l=>match cs with
   | .string y::cs=>cond (decide (x=y)) (zcells E n l cs) .none
   | _=>.none
  | .nilp::l=>match cs with
   | .pointer .none::cs=>zcells E n l cs
   | _=>.none
  | .tr c .nil []::l=>match cs with
   | .pointer .none::cs=>zcells E n l cs
   | _=>.none
  | .nilf::l=>match cs with
   | .nilFunc::cs=>zcells E n l cs
   | _=>.none
  | .nils c::l=>match cs with
   | .slice .none 0 0::cs=>zcells E n l cs
   | _=>.none
  | .ro b c []::l=>match cs with
   | .slice a 0 _::cs=>zcells E n l cs
   | _=>.none
  | .agg m::l=>match zcells E n m cs with
   | some cs=>zcells E n l cs
   | .none=>.none
  | .arr c k xs::l=>cond (Nat.beq xs.length k) (match zcells E n (xs.map (E.enc c)) cs with
   | some cs=>zcells E n l cs
   | .none=>.none) .none
  | _=>.none
theorem zcells_ok{E:Env U}{w:World}{St:Ck U->Nat->Prop}{ι:Nat->Option Value}:∀ (n:Nat) (l:List (A U)) (cs r:List Value),zcells E n l cs=some r->∃ c1,cs=c1++r/\RC E w St ι l c1 []
 | 0,l,cs,r,h=>by simp[zcells] at h
 | n+1,l,cs,r,h=>by
  have ih:=zcells_ok (E:=E) (w:=w) (St:=St) (ι:=ι) n
  have one:∀ (a:A U) (l:List (A U)) (v:Value) (cs:List Value),(∀ {l cs},RC E w St ι l cs []->RC E w St ι (a::l) (v::cs) [])->zcells E n l cs=some r->∃ c1,v::cs=c1++r/\RC E w St ι (a::l) c1 []:=by
   intro a l v cs hc h
   obtain⟨c1,rfl,h1⟩:=ih l cs r h
   exact⟨v::c1,rfl,hc h1⟩
  cases l with
  | nil=>simp only[zcells,Option.some.injEq] at h;exact⟨[],h,.nil⟩
  | cons a l=>
   cases a with
   | int k x=>
    simp only[zcells] at h
    split at h
    ·rename_i k' y cs
     cases hb:(decide (k=k')&&decide (x=y)) with
     | false=>rw[hb] at h;simp at h
     | true=>
      rw[hb] at h
      simp only[Bool.and_eq_true,decide_eq_true_eq] at hb
      obtain⟨rfl,rfl⟩:=hb
      exact one _ _ _ _ .int h
    ·simp at h
   | bool x=>
    simp only[zcells] at h
    split at h
    ·rename_i y cs
     cases hb:(x==y) with
     | false=>rw[hb] at h;simp at h
     | true=>rw[hb] at h;rw[<-eq_of_beq hb];exact one _ _ _ _ .bool h
    ·simp at h
   | str x=>
    simp only[zcells] at h
    split at h
    ·rename_i y cs
     cases hb:(decide (x=y)) with
     | false=>rw[hb] at h;simp at h
     | true=>rw[hb] at h;rw[<-of_decide_eq_true hb];exact one _ _ _ _ .str h
    ·simp at h
   | nilp=>simp only[zcells] at h;split at h;exact one _ _ _ _ .nilp h;simp at h
   | tr c z p=>
    cases z with
    | node _ _ _ _=>simp[zcells] at h
    | nil=>
     cases p with
     | cons _ _=>simp[zcells] at h
     | nil=>
      simp only[zcells] at h
      split at h
      ·exact one _ _ _ _ (fun h=>.tr (.inl ⟨rfl,rfl,rfl⟩) h) h
      ·simp at h
   | nilf=>simp only[zcells] at h;split at h;exact one _ _ _ _ .nilf h;simp at h
   | nils c=>simp only[zcells] at h;split at h;exact one _ _ _ _ .nils h;simp at h
   | ro b c xs=>
    cases xs with
    | nil=>simp only[zcells] at h;split at h;exact one _ _ _ _ .roE h;simp at h
    | cons _ _=>simp[zcells] at h
   | agg m=>
    simp only[zcells] at h
    cases hm:zcells E n m cs with
    | none=>rw[hm] at h;simp at h
    | some cs'=>
     rw[hm] at h
     obtain⟨c1,rfl,h1⟩:=ih m cs cs' hm
     obtain⟨c2,rfl,h2⟩:=ih l cs' r h
     exact⟨c1++c2,by simp,by simpa using RC.agg h1 h2⟩
   | arr c k xs=>
    simp only[zcells] at h
    cases hb:Nat.beq xs.length k with
    | false=>rw[hb] at h;simp at h
    | true=>
     rw[hb] at h
     simp only[cond_true] at h
     cases hm:zcells E n (xs.map (E.enc c)) cs with
     | none=>rw[hm] at h;simp at h
     | some cs'=>
      rw[hm] at h
      obtain⟨c1,rfl,h1⟩:=ih _ cs cs' hm
      obtain⟨c2,rfl,h2⟩:=ih l cs' r h
      exact⟨c1++c2,by simp,by simpa using RC.arr (Nat.eq_of_beq_eq_true hb) h1 h2⟩
   | _=>simp[zcells] at h
def fieldsB:List Field->List (TypeId×Nat)->Bool
 | [],[]=>true
 | f::l,x::m=>Nat.beq f.type x.1&&(Nat.beq f.offset x.2&&fieldsB l m)
 | _,_=>false
theorem fieldsB_eq:∀ {l:List Field} {m:List (TypeId×Nat)},fieldsB l m=true->m=l.map fun f=>(f.type,f.offset)
 | [],[],_=>rfl
 | [],_::_,h=>by simp[fieldsB] at h
 | _::_,[],h=>by simp[fieldsB] at h
 | f::l,x::m,h=>by
  simp only[fieldsB,Bool.and_eq_true] at h
  rw[fieldsB_eq h.2.2,List.map_cons,Nat.eq_of_beq_eq_true h.1,Nat.eq_of_beq_eq_true h.2.1]
def tyB(P:Program)(t:TypeId):Ty->Bool
 | .no=>false
 | .int k=>match P.underlying t with|some (.int k')=>decide (k'=k)|_=>false
 | .bool=>match P.underlying t with|some .bool=>true|_=>false
 | .str=>match P.underlying t with|some .string=>true|_=>false
 | .ptr e=>match P.underlying t with|some (.pointer e')=>Nat.beq e' e|_=>false
 | .func=>true
 | .sl e=>match P.underlying t with|some (.slice e')=>Nat.beq e' e|_=>false
 | .arr n e=>match P.underlying t with|some (.array n' e')=>Nat.beq n' n&&Nat.beq e' e|_=>false
 | .st fs=>match P.underlying t with|some (.struct fields)=>fieldsB fields.toList fs|_=>false
theorem tyB_ok{P:Program}{t:TypeId}{y:Ty}(h:tyB P t y=true):tyOk P t y:=by
 cases y<;>simp only[tyB] at h<;>first|(simp at h;done)|skip
 case int k=>split at h;rename_i k' e;simp only[decide_eq_true_eq] at h;subst h;exact e;simp at h
 case bool=>split at h;assumption;simp at h
 case str=>split at h;assumption;simp at h
 case ptr e=>split at h;rename_i e' he;rw[Nat.eq_of_beq_eq_true h] at he;exact he;simp at h
 case func=>trivial
 case sl e=>split at h;rename_i e' he;rw[Nat.eq_of_beq_eq_true h] at he;exact he;simp at h
 case arr n e=>split at h;rename_i n' e' he;simp only[Bool.and_eq_true] at h;rw[Nat.eq_of_beq_eq_true h.1,Nat.eq_of_beq_eq_true h.2] at he;exact he;simp at h
 case st fs=>split at h;rename_i fields he;exact⟨fields,he,fieldsB_eq h⟩;simp at h
def zeroB(E:Env U)(z:Value)(a:A U):Bool:=match zcells E 1000 [a] z.cells.toList with
 | some []=>isAggV z==isAgg a
 | _=>false
theorem zeroB_ok{E:Env U}{w:World}{St:Ck U->Nat->Prop}{ι:Nat->Option Value}{z:Value}{a:A U}(h:zeroB E z a=true):RV E w St ι a z:=by
 unfold zeroB at h
 split at h
 ·rename_i hz
  obtain⟨c1,e,h1⟩:=zcells_ok (w:=w) (St:=St) (ι:=ι) _ _ _ _ hz
  rw[List.append_nil] at e
  subst e
  exact⟨h1,eq_of_beq h⟩
 ·simp at h
def rowB(E:Env U)(r:Row):Bool:=tyB E.P r.t r.ty &&
 (match E.P.info? r.t with
  | some i=>(Nat.beq i.size r.sz&&Nat.beq i.bytes r.by')&&(match i.zero with
   | some z=>(cond (known (zero E r.t)) (zeroB E z (zero E r.t)) true)&&(zeroB E z (E.enc r.t (E.dflt r.t))&&Nat.beq z.cells.size r.sz)
   | .none=>false)
  | .none=>false) &&
 (match E.P.underlying r.t with|some d=>d.isRow==rowTy r.ty|.none=>false)
def rowsB(E:Env U):List Row->Bool
 | []=>true
 | r::l=>rowB E r&&rowsB E l
theorem rowOf_mem{t:TypeId}:∀ {l:List Row} {r:Row},rowOf t l=some r->r∈l/\r.t=t
 | [],r,h=>by simp[rowOf] at h
 | x::l,r,h=>by
  simp only[rowOf] at h
  cases hb:Nat.beq x.t t with
  | true=>rw[hb] at h;simp only[cond_true,Option.some.injEq] at h;subst h;exact⟨by simp,Nat.eq_of_beq_eq_true hb⟩
  | false=>rw[hb] at h;obtain⟨h1,h2⟩:=rowOf_mem (l:=l) h;exact⟨by simp[h1],h2⟩
theorem rowsB_mem{E:Env U}:∀ {l:List Row},rowsB E l=true->∀ r∈l,rowB E r=true
 | [],h,r,hr=>by cases hr
 | x::l,h,r,hr=>by
  simp only[rowsB,Bool.and_eq_true] at h
  rcases List.mem_cons.1 hr with rfl|hr
  ·exact h.1
  ·exact rowsB_mem h.2 r hr
def PlainOk(E:Env U)(c:Nat):Prop:=(∀ l m:List (U c),E.eqb c l m=true↔l=m)/\∀ x y:U c,∃ r,eqV E 1 c (E.enc c x) (E.enc c y)=some r/\(r=true↔x=y)
abbrev decI(x y:Int):Bool:=decide (x=y)
abbrev decB(x y:Bool):Bool:=x==y
abbrev eqLI(x y:List Int):Bool:=decide (x=y)
abbrev eqLB(x y:List Bool):Bool:=decide (x=y)
abbrev eqLS(x y:List ByteArray):Bool:=decide (x=y)
theorem decI_iff(x y:Int):decI x y=true↔x=y:=decide_eq_true_iff
theorem decB_iff(x y:Bool):decB x y=true↔x=y:=beq_iff_eq
theorem eqLI_iff(x y:List Int):eqLI x y=true↔x=y:=decide_eq_true_iff
theorem eqLB_iff(x y:List Bool):eqLB x y=true↔x=y:=decide_eq_true_iff
theorem eqLS_iff(x y:List ByteArray):eqLS x y=true↔x=y:=decide_eq_true_iff
theorem seq_iff{x y:ByteArray}:seq x y=true↔x=y:=decide_eq_true_iff
theorem eqA_of{E:Env U}(h:∀ r∈E.tys,plainTy r.ty=true->PlainOk E r.t):∀ c,plainTy (E.ty c)=true->PlainOk E c:=by
 intro c hc
 unfold Env.ty at hc
 cases hr':rowOf c E.tys with
 | none=>rw[hr'] at hc;simp[plainTy] at hc
 | some r=>
  rw[hr'] at hc
  obtain⟨h1,h2⟩:=rowOf_mem hr'
  rw[<-h2]
  exact h r h1 hc
structure EnvX (E:Env U):Prop where
 glob:∀ g,loan (E.glob g)=false/\noTupG (E.glob g)=true
 eqA:∀ c,plainTy (E.ty c)=true->PlainOk E c
 eqT:eqsOk E.P E.eqs=true
 toB:∀ c l t,E.toBytes c l=some t->E.ty c=.int .u8/\∃ ns:List Int,l.map (E.enc c)=ns.map (.int .u8)/\t=bytesOf ns
 ofB:∀ c t l,E.ofBytes c t=some l->E.ty c=.int .u8/\l.map (E.enc c)=(bytesTo t).map (.int .u8)
theorem envOk_of(E:Env U)(hb:EnvOk E)(hr:rowsB E E.tys=true)(hm:E.P.follows .mixedOrders=true)(hx:EnvX E):EnvOk2 E:=by
 have row:∀ t,E.ty t≠.no->∃ r,E.ty t=r.ty/\E.sz t=r.sz/\E.by' t=r.by'/\r.t=t/\rowB E r=true:=by
  intro t h
  unfold Env.ty at h
  cases hr':rowOf t E.tys with
  | none=>rw[hr'] at h;exact absurd rfl h
  | some r=>
   obtain⟨h1,h2⟩:=rowOf_mem hr'
   exact⟨r,by unfold Env.ty;rw[hr'],by unfold Env.sz;rw[hr'],by unfold Env.by';rw[hr'],h2,rowsB_mem hr r h1⟩
 have all:∀ t,E.ty t≠.no->tyOk E.P t (E.ty t)/\(∃ i z,E.P.info? t=some i/\i.size=E.sz t/\i.bytes=E.by' t/\i.zero=some z/\(known (zero E t)=true->zeroB E z (zero E t)=true)/\zeroB E z (E.enc t (E.dflt t))=true/\z.cells.size=E.sz t) ∧
   (∃ d,E.P.underlying t=some d/\d.isRow=rowTy (E.ty t)):=by
  intro t h
  obtain⟨r,h1,h2,h3,rfl,h4⟩:=row t h
  unfold rowB at h4
  simp only[Bool.and_eq_true] at h4
  obtain⟨⟨q1,q2⟩,q3⟩:=h4
  rw[h1,h2,h3]
  refine⟨tyB_ok q1,?_,?_⟩
  ·cases hi:E.P.info? r.t with
   | none=>rw[hi] at q2;simp at q2
   | some i=>
    rw[hi] at q2
    simp only[Bool.and_eq_true] at q2
    cases hz:i.zero with
    | none=>rw[hz] at q2;simp at q2
    | some z=>
     rw[hz] at q2
     simp only[Bool.and_eq_true] at q2
     refine⟨i,z,rfl,Nat.eq_of_beq_eq_true q2.1.1,Nat.eq_of_beq_eq_true q2.1.2,hz,fun hk=>?_,q2.2.2.1,Nat.eq_of_beq_eq_true q2.2.2.2⟩
     have:=q2.2.1
     rw[hk] at this
     exact this
  ·cases hd:E.P.underlying r.t with
   | none=>rw[hd] at q3;simp at q3
   | some d=>rw[hd] at q3;exact⟨d,rfl,eq_of_beq q3⟩
 have no:∀ t,E.ty t=.no->zero E t=.none:=fun t h=>by unfold zero zeroA;rw[h]
 refine { toEnvOk:=hb,under:=fun t=>?_,info:=fun t h=>?_,agg:=fun t h=>(all t h).2.2,zer:=fun t h=>?_,dfl:=fun c h=>?_,mixed:=hm,glob:=hx.glob,eqA:=hx.eqA,eqT:=hx.eqT,toB:=hx.toB,ofB:=hx.ofB }
 ·by_cases h:E.ty t=.no
  ·rw[h];trivial
  ·exact (all t h).1
 ·obtain⟨i,z,h1,h2,h3,-⟩:=(all t h).2.1
  exact⟨i,h1,h2,h3⟩
 ·by_cases hn:E.ty t=.no
  ·rw[no t hn] at h;simp[known] at h
  ·obtain⟨i,z,h1,h2,h3,h4,h5,-⟩:=(all t hn).2.1
   exact⟨i,z,h1,h4,fun w St ι=>zeroB_ok (h5 h)⟩
 ·obtain⟨i,z,h1,h2,h3,h4,h5,h6,h7⟩:=(all c h).2.1
  exact⟨i,z,h1,h4,h7,fun w St ι=>(zeroB_ok h6).1⟩
end Go.V

set_option linter.unusedVariables false
namespace Go.V
variable {U:Nat->Type}
theorem rowOf_none{c:Nat}:∀ {l:List Row},(∀ r∈l,r.t≠c)->rowOf c l=.none
 | [],_=>rfl
 | r::l,h=>by
  have h1:Nat.beq r.t c=false:=by
   cases hb:Nat.beq r.t c with
   | false=>rfl
   | true=>exact absurd (Nat.eq_of_beq_eq_true hb) (h r (by simp))
  simp only[rowOf,h1,cond_false]
  exact rowOf_none fun x hx=>h x (by simp[hx])
structure Hold (p:Prop):Prop where
 out:p
theorem Hold.mp{p q:Prop}(e:p=q)(h:p):Hold q:=⟨e▸h⟩
inductive RowOk (E:Env U) (T:Tab U) (C:Cut U) (f:Nat) (args:List (A U)) (objs:List (AObj U)) (K:A U->List (AObj U)->Prop):Prop where
 | fn:fnOk E.P f=true->Nat.blt f 1000000=true->Hold (vfunc E T C f args objs K)->RowOk E T C f args objs K
 | round (g id:Nat):f=ykey g id->fnOk E.P g=true->Nat.blt id 1000000=true->Hold (vround E T C g id args objs K)->RowOk E T C f args objs K
 | row:(TSound E T->RowSound E f args objs K)->RowOk E T C f args objs K
end Go.V

set_option linter.unusedVariables false
set_option linter.unusedSimpArgs false
namespace Go.V
variable {U:Nat->Type}
def ms(E:Env U):Nat->A U->Nat
 | 0,_=>0
 | n+1,a=>match a with
  | .str s=>s.size+1
  | .agg l=>(l.map fun x=>ms E n x).sum+1
  | .ro _ c l=>(l.map fun x=>ms E n (E.enc c x)).sum+1
  | .arr c _ l=>(l.map fun x=>ms E n (E.enc c x)).sum+1
  | _=>1
def wf(E:Env U):Nat->A U->Prop
 | 0,_=>True
 | n+1,a=>match a with
  | .int k x=>k.min<=x/\x<=k.max
  | .str s=>s.size<=maxLen
  | .agg l=>∀ x∈l,wf E n x
  | .ro _ c l=>l.length<=maxLen/\∀ x∈l,wf E n (E.enc c x)
  | .arr c m l=>l.length=m/\∀ x∈l,wf E n (E.enc c x)
  | _=>True
def EncAll(E:Env U):List (TypeId×Nat)->List (A U)->Prop
 | [],[]=>True
 | f::fs,a::l=>(∃ x:U f.1,E.enc f.1 x=a)/\EncAll E fs l
 | _,_=>False
def offs(E:Env U):List (TypeId×Nat)->Nat->Option Nat
 | [],k=>some k
 | f::fs,k=>cond (Nat.beq f.2 k) (offs E fs (k+E.sz f.1)) .none
def DataT(E:Env U)(D:List Nat)(t:Nat):Prop:=match E.ty t with
 | .int k=>∀ n,∃ x:U t,E.enc t x=.int k n
 | .bool=>∀ b,∃ x:U t,E.enc t x=.bool b
 | .str=>∀ s,∃ x:U t,E.enc t x=.str s
 | .sl e=>e∈D/\0<E.sz e/\∀ l:List (U e),∃ x:U t,E.enc t x=.ro false e l
 | .arr m e=>e∈D/\m*E.sz e=E.sz t/\∀ l:List (U e),l.length=m->∃ x:U t,E.enc t x=.arr e m l
 | .st fs=>(∀ f∈fs,f.1∈D)/\offs E fs 0=some (E.sz t)/\∀ l,EncAll E fs l->∃ x:U t,E.enc t x=.agg l
 | _=>False
structure Bulk {H:Type} (B:DataW H->Nat):Prop where
 str:∀ s,s.length+1<=B (.lit (.string s))
 one:∀ d,1<=B d
 sl:∀ l m,(l.map B).sum+1<=B (.slice l m)
 agg:∀ l,(l.map B).sum+1<=B (.agg l)
section
variable {E:Env U} {D:List Nat} {H:Type} {enc:TypeId×Value->H} {W:World} {B:DataW H->Nat}
def Below(W:World):Ck U->Nat->Prop:=fun g b=>isOn g=true/\b<W.heap.size
theorem sz_eq(ok:EnvOk2 E){t:Nat}(h:E.ty t≠.no):E.P.cellsOf t=E.sz t:=by
 obtain⟨i,h1,h2,h3⟩:=ok.info t h
 simp[Program.cellsOf,h1,h2]
theorem sum_le{α β:Type}(f:α->Nat)(g:β->Nat):∀ (l:List α) (m:List β),l.length=m.length->(∀ (i:Nat) x y,l[i]?=some x->m[i]?=some y->f x<=g y)->(l.map f).sum<=(m.map g).sum
 | [],[],_,_=>by simp
 | [],_::_,h,_=>by simp at h
 | _::_,[],h,_=>by simp at h
 | a::l,b::m,h,k=>by
  have h1:=k 0 a b rfl rfl
  have h2:=sum_le f g l m (by simpa using h) fun i x y hx hy=>k (i+1) x y (by simpa using hx) (by simpa using hy)
  simp only[List.map_cons,List.sum_cons]
  omega
structure Opened (E:Env U) (W:World) (B:DataW H->Nat) (t:Nat) (cs:List Value) (d:DataW H) (x:U t):Prop where
 rc:RC E W (Below W) noNm [E.enc t x] cs []
 wf:∀ m,wf E m (E.enc t x)
 ms:∀ m,ms E m (E.enc t x)<=B d
 ag:isAgg (E.enc t x)=rowTy (E.ty t)
theorem open_list{t:Nat}(cs:Nat->List Value):∀ (ds:List (DataW H)) (k:Nat),(∀ (i:Nat) d,ds[i]?=some d->∃ x:U t,Opened E W B t (cs (k+i)) d x) →
  ∃ xs:List (U t),xs.length=ds.length/\(∀ (i:Nat) x,xs[i]?=some x->∃ d,ds[i]?=some d/\Opened E W B t (cs (k+i)) d x)
 | [],k,_=>⟨[],rfl,by simp⟩
 | d::ds,k,h=>by
  obtain⟨x,hx⟩:=h 0 d rfl
  obtain⟨xs,h1,h2⟩:=open_list cs ds (k+1) fun i d hd=>by
   obtain⟨x,hx⟩:=h (i+1) d (by simpa using hd)
   exact⟨x,by rwa [Nat.add_assoc,Nat.add_comm 1 i]⟩
  refine⟨x::xs,by simp[h1],fun i y hy=>?_⟩
  cases i with
  | zero=>simp at hy;subst hy;exact⟨d,rfl,hx⟩
  | succ i=>
   obtain⟨d',h3,h4⟩:=h2 i y (by simpa using hy)
   exact⟨d',by simpa using h3,by rwa [Nat.add_assoc,Nat.add_comm 1 i] at h4⟩
theorem rc_list{t:Nat}(cs:Nat->List Value):∀ (xs:List (U t)) (k:Nat),(∀ (i:Nat) x,xs[i]?=some x->RC E W (Below W) noNm [E.enc t x] (cs (k+i)) []) →
  RC E W (Below W) noNm (xs.map (E.enc t)) ((List.range xs.length).flatMap fun i=>cs (k+i)) []
 | [],k,_=>by simpa using RC.nil
 | x::xs,k,h=>by
  have h1:=h 0 x rfl
  have h2:=rc_list cs xs (k+1) fun i y hy=>by
   have:=h (i+1) y (by simpa using hy)
   rwa [Nat.add_assoc,Nat.add_comm 1 i]
  have h3:=RC.cons h1 h2
  simp only[List.map_cons,List.length_cons]
  rw[List.range_succ_eq_map,List.flatMap_cons,List.flatMap_map]
  have e:(fun i=>cs (k+1+i))=fun i=>cs (k+i.succ):=by funext i;congr 1;omega
  rw[e] at h3
  simpa using h3
theorem cut_flat(cs:List Value)(s:Nat):∀ n,cs.length=n*s->((List.range n).flatMap fun i=>(cs.drop (i*s)).take s)=cs:=by
 intro n
 induction n generalizing cs with
 | zero=>intro h;simp at h;simp[h]
 | succ n ih=>
  intro h
  rw[List.range_succ_eq_map,List.flatMap_cons,List.flatMap_map]
  have h1:=ih (cs.drop s) (by rw[List.length_drop,h,Nat.add_mul];omega)
  have e:(fun a=>List.take s (List.drop (Nat.succ a*s) cs))=fun i=>((cs.drop s).drop (i*s)).take s:=by
   funext i;rw[List.drop_drop];congr 2;rw[Nat.succ_mul];omega
  rw[e,h1]
  simp
theorem open_fields(ok:EnvOk2 E){cs:List Value}:∀ (fs:List (TypeId×Nat)) (ds:List (DataW H)) (k e:Nat),offs E fs k=some e->e<=cs.length->ds.length=fs.length →
  (∀ (i:Nat) f d,fs[i]?=some f->ds[i]?=some d->∃ x:U f.1,Opened E W B f.1 ((cs.drop f.2).take (E.sz f.1)) d x) →
  k<=e/\∃ l,EncAll E fs l/\RC E W (Below W) noNm l ((cs.drop k).take (e-k)) []/\(∀ m,∀ a∈l,wf E m a)/\∀ m,(l.map fun x=>ms E m x).sum<=(ds.map B).sum
 | [],[],k,e,ho,he,_,_=>by
  simp only[offs,Option.some.injEq] at ho
  subst ho
  exact⟨Nat.le_refl _,[],trivial,by simpa using RC.nil,by simp,by simp⟩
 | f::fs,d::ds,k,e,ho,he,hl,h=>by
  simp only[offs] at ho
  cases hb:Nat.beq f.2 k with
  | false=>rw[hb] at ho;simp at ho
  | true=>
   rw[hb] at ho
   simp only[cond_true] at ho
   have hk:=Nat.eq_of_beq_eq_true hb
   obtain⟨x,hx⟩:=h 0 f d rfl rfl
   obtain⟨h0,l,h1,h2,h3,h4⟩:=open_fields ok fs ds (k+E.sz f.1) e ho he (by simpa using hl) fun i f' d' hf hd=>h (i+1) f' d' (by simpa using hf) (by simpa using hd)
   have hlen:=hx.rc.length ok.toEnvOk
   simp only[sizes,Nat.add_zero,ok.encSize] at hlen
   refine⟨by omega,E.enc f.1 x::l,⟨⟨x,rfl⟩,h1⟩,?_,?_,?_⟩
   ·have:=RC.cons hx.rc h2
    rw[hk] at this
    have e1:(List.take (E.sz f.1) (List.drop k cs))++(List.take (e-(k+E.sz f.1)) (List.drop (k+E.sz f.1) cs))=List.take (e-k) (List.drop k cs):=by
     rw[<-List.drop_drop,show e-k=E.sz f.1+(e-(k+E.sz f.1)) by omega,List.take_add]
    rw[e1] at this
    exact this
   ·intro m a ha
    rcases List.mem_cons.1 ha with rfl|ha
    ·exact hx.wf m
    ·exact h3 m a ha
   ·intro m
    have:=hx.ms m
    have:=h4 m
    simp only[List.map_cons,List.sum_cons]
    omega
 | [],_::_,_,_,_,_,hl,_=>by simp at hl
 | _::_,[],_,_,_,_,hl,_=>by simp at hl
theorem cells_at{w:World}{a:Addr}{n:Nat}{cs:List Value}(h:w.cells? 0 a n=some cs)(hn:0<n)(ha:a.spot=.none):cs.length=n/\∀ i,i<n->w.cell? ⟨a.block,a.off+i,.none⟩=cs[i]?:=by
 obtain⟨h1,h2,h3⟩:=World.cells?_some h
 refine⟨h2,fun i hi=>?_⟩
 rw[<-h3 i hi]
 unfold Addr.add
 split
 ·rename_i e;subst e;cases a;simp at ha;subst ha;rfl
 ·rfl
theorem spot_of{w:World}{a:Addr}{v:Value}(h:w.cell? a=some v):a.spot=.none/\a.block<w.heap.size:=by
 unfold World.cell? at h
 split at h
 ·rename_i c t f hh
  split at h
  ·cases h
  ·rename_i hs
   exact⟨by simpa using hs,(Array.getElem?_eq_some_iff.1 hh).1⟩
 ·cases h
theorem open_any(ok:EnvOk2 E)(hD:∀ e∈D,DataT E D e)(hB:Bulk B):∀ (n:Nat) (t:Nat),t∈D->∀ (cs:List Value) (d:DataW H) (ps:List MemPlace),
  DataW.trod enc E.P W 0 (fun _=>true) true n t cs=some (d,ps)->∃ x:U t,Opened E W B t cs d x
 | 0,t,ht,cs,d,ps,h=>by simp[DataW.trod] at h
 | n+1,t,ht,cs,d,ps,h=>by
  have hT:=hD t ht
  have hu:=ok.under t
  unfold DataT at hT
  cases hy:E.ty t with
  | no=>rw[hy] at hT;exact hT.elim
  | ptr e=>rw[hy] at hT;exact hT.elim
  | func=>rw[hy] at hT;exact hT.elim
  | int k=>
   rw[hy] at hT hu
   simp only at hT
   obtain⟨m,rfl,hx,hw⟩:=DataW.trod_int hu h
   obtain⟨x,e⟩:=hT m
   simp only[Prod.mk.injEq] at hx
   obtain⟨rfl,rfl⟩:=hx
   simp only[Lit.wf,Bool.and_eq_true,decide_eq_true_eq] at hw
   refine⟨x,by rw[e];exact .int .nil,fun j=>?_,fun j=>?_,by rw[e,hy];rfl⟩
   ·rw[e];cases j with
    | zero=>trivial
    | succ j=>exact hw
   ·rw[e];cases j with
    | zero=>exact Nat.zero_le _
    | succ j=>exact hB.one _
  | bool=>
   rw[hy] at hT hu
   simp only at hT
   obtain⟨m,rfl,hx⟩:=DataW.trod_bool hu h
   obtain⟨x,e⟩:=hT m
   simp only[Prod.mk.injEq] at hx
   obtain⟨rfl,rfl⟩:=hx
   refine⟨x,by rw[e];exact .bool .nil,fun j=>?_,fun j=>?_,by rw[e,hy];rfl⟩
   ·rw[e];cases j<;>trivial
   ·rw[e];cases j with
    | zero=>exact Nat.zero_le _
    | succ j=>exact hB.one _
  | str=>
   rw[hy] at hT hu
   simp only at hT
   obtain⟨m,rfl,hx,hm⟩:=DataW.trod_string hu h
   obtain⟨x,e⟩:=hT m
   simp only[Prod.mk.injEq] at hx
   obtain⟨rfl,rfl⟩:=hx
   refine⟨x,by rw[e];exact .str .nil,fun j=>?_,fun j=>?_,by rw[e,hy];rfl⟩
   ·rw[e];cases j with
    | zero=>trivial
    | succ j=>exact hm
   ·rw[e];cases j with
    | zero=>exact Nat.zero_le _
    | succ j=>
     have:=hB.str m.data.toList
     simp only[ms]
     simp only[Array.length_toList] at this
     exact this
  | sl e=>
   rw[hy] at hT hu
   simp only at hT
   obtain⟨heD,hsz,hA⟩:=hT
   have hey:E.ty e≠.no:=by
    intro hn
    have:=hD e heD
    unfold DataT at this
    rw[hn] at this
    exact this
   have hcs:=sz_eq ok hey
   rcases DataW.trod_slice hu h with ⟨rfl,hx⟩|⟨a,len,cap,elems,rest,n',hn',rfl,hx,-,hlc,hcap,hel,hget,-,-⟩
   ·obtain⟨x,ex⟩:=hA []
    simp only[Prod.mk.injEq] at hx
    obtain⟨rfl,rfl⟩:=hx
    refine⟨x,by rw[ex];exact .roE .nil,fun j=>?_,fun j=>?_,by rw[ex,hy];rfl⟩
    ·rw[ex];cases j with
     | zero=>trivial
     | succ j=>exact⟨Nat.zero_le _,by simp⟩
    ·rw[ex];cases j with
     | zero=>exact Nat.zero_le _
     | succ j=>exact hB.one _
   ·obtain rfl:n=n':=by omega
    simp only[Prod.mk.injEq] at hx
    obtain⟨rfl,-⟩:=hx
    let cel:Nat->List Value:=fun i=>(W.cells? 0 (a.add (i*E.sz e)) (E.sz e)).getD []
    have each:∀ (i:Nat) y,elems[i]?=some y->∃ cs',W.cells? 0 (a.add (i*E.sz e)) (E.sz e)=some cs'/\DataW.trod enc E.P W 0 (fun _=>true) true n e cs'=some y:=by
     intro i y hy'
     have hi:i<len:=by rw[<-hel];exact (List.getElem?_eq_some_iff.1 hy').1
     have:=hget i hi
     rw[hy',hcs,Option.bind_eq_some_iff] at this
     exact this
    have each2:∀ (i:Nat) d,(elems.map (·.1))[i]?=some d->∃ x:U e,Opened E W B e (cel (0+i)) d x:=by
     intro i d hd
     rw[List.getElem?_map] at hd
     cases hy':elems[i]? with
     | none=>rw[hy'] at hd;simp at hd
     | some y=>
      rw[hy'] at hd
      simp only[Option.map_some,Option.some.injEq] at hd
      subst hd
      obtain⟨cs',q1,q2⟩:=each i y hy'
      have:cel (0+i)=cs':=by simp only[cel,Nat.zero_add,q1,Option.getD_some]
      rw[this]
      exact open_any ok hD hB n e heD cs' y.1 y.2 q2
    obtain⟨xs,hxl,hxs⟩:=open_list cel _ 0 each2
    rw[List.length_map,hel] at hxl
    obtain⟨x,ex⟩:=hA xs
    refine⟨x,?_,fun j=>?_,fun j=>?_,by rw[ex,hy];rfl⟩
    ·rw[ex]
     cases xs with
     | nil=>simp only[List.length_nil] at hxl;subst hxl;exact .roE .nil
     | cons x0 xs0=>
      have hpos:0<len:=by rw[<-hxl];simp
      have hy0:∃ y,elems[0]?=some y:=by
       cases hh:elems[0]? with
       | none=>rw[List.getElem?_eq_none_iff] at hh;omega
       | some y=>exact⟨y,rfl⟩
      obtain⟨y0,hy0⟩:=hy0
      obtain⟨cs0,q1,q2⟩:=each 0 y0 hy0
      obtain⟨-,q3,q4⟩:=World.cells?_some q1
      have q5:=q4 0 hsz
      have:∃ v,cs0[0]?=some v:=⟨cs0[0]'(by omega),by simp⟩
      obtain⟨v0,hv0⟩:=this
      rw[hv0,Nat.zero_mul,show (a.add 0).add 0=a by simp[Addr.add]] at q5
      obtain⟨hsp,hblk⟩:=spot_of q5
      obtain⟨ab,ao,as⟩:=a
      simp only at hsp hblk
      subst hsp
      have rc:=rc_list (E:=E) (W:=W) cel (x0::xs0) 0 fun i y hy'=>by
       obtain⟨d,-,hd⟩:=hxs i y hy'
       exact hd.rc
      rw[<-hxl]
      refine .ro rc ?_ ⟨rfl,hblk⟩ (by rw[hxl];exact hlc) .nil
      intro j v hj
      have hlen:∀ i,i<len->(cel (0+i)).length=E.sz e/\∀ q,q<E.sz e->W.cell? ⟨ab,ao+(i*E.sz e+q),.none⟩=(cel (0+i))[q]?:=by
       intro i hi
       have:∃ y,elems[i]?=some y:=by
        cases hh:elems[i]? with
        | none=>rw[List.getElem?_eq_none_iff] at hh;omega
        | some y=>exact⟨y,rfl⟩
       obtain⟨y,hy'⟩:=this
       obtain⟨cs',r1,r2⟩:=each i y hy'
       have hc:cel (0+i)=cs':=by simp only[cel,Nat.zero_add,r1,Option.getD_some]
       rw[hc]
       have hadd:(Addr.add ⟨ab,ao,.none⟩ (i*E.sz e))=⟨ab,ao+i*E.sz e,.none⟩:=by
        unfold Addr.add
        split
        ·rename_i e0;rw[e0];rfl
        ·rfl
       rw[hadd] at r1
       obtain⟨s1,s2⟩:=cells_at r1 hsz rfl
       refine⟨s1,fun q hq=>?_⟩
       rw[<-s2 q hq,Nat.add_assoc]
      have key:∀ m,m<=len->((List.range m).flatMap fun i=>cel (0+i)).length=m*E.sz e/\∀ j v,((List.range m).flatMap fun i=>cel (0+i))[j]?=some v->W.cell? ⟨ab,ao+j,.none⟩=some v:=by
       intro m
       induction m with
       | zero=>intro _;simp
       | succ m ih=>
        intro hm
        obtain⟨i1,i2⟩:=ih (by omega)
        obtain⟨l1,l2⟩:=hlen m (by omega)
        rw[List.range_succ,List.flatMap_append,List.flatMap_singleton]
        refine⟨by rw[List.length_append,i1,l1,Nat.succ_mul],fun j v hj=>?_⟩
        by_cases hjm:j<m*E.sz e
        ·rw[List.getElem?_append_left (by omega)] at hj
         exact i2 j v hj
        ·rw[List.getElem?_append_right (by omega),i1] at hj
         have hq:=(List.getElem?_eq_some_iff.1 hj).1
         rw[l1] at hq
         have:=l2 (j-m*E.sz e) hq
         rw[hj] at this
         rw[<-this]
         congr 2
         omega
      have:=(key (x0::xs0).length (by omega)).2 j v hj
      exact this
    ·rw[ex]
     cases j with
     | zero=>trivial
     | succ j=>
      refine⟨by omega,fun y hy'=>?_⟩
      obtain⟨i,hi⟩:=List.getElem?_of_mem hy'
      obtain⟨d,-,hd⟩:=hxs i y hi
      exact hd.wf j
    ·rw[ex]
     cases j with
     | zero=>exact Nat.zero_le _
     | succ j=>
      have h1:=hB.sl (elems.map (·.1)) (rest.map (·.1))
      have h2:=sum_le (fun x=>ms E j (E.enc e x)) B xs (elems.map (·.1)) (by rw[hxl,List.length_map,hel]) fun i y d hy' hd=>by
       obtain⟨d',h1,h2⟩:=hxs i y hy'
       rw[hd] at h1
       obtain rfl:=Option.some.inj h1
       exact h2.ms j
      simp only[ms]
      omega
  | arr m e=>
   rw[hy] at hT hu
   simp only at hT
   obtain⟨heD,hsz,hA⟩:=hT
   have hey:E.ty e≠.no:=by
    intro hn
    have:=hD e heD
    unfold DataT at this
    rw[hn] at this
    exact this
   have hcs:=sz_eq ok hey
   have hct:=sz_eq ok (t:=t) (by rw[hy];simp)
   obtain⟨ys,n',hn',hx,hlen,hyl,hget⟩:=DataW.trod_array hu h
   obtain rfl:n=n':=by omega
   simp only[Prod.mk.injEq] at hx
   obtain⟨rfl,-⟩:=hx
   have each2:∀ (i:Nat) d,(ys.map (·.1))[i]?=some d->∃ x:U e,Opened E W B e ((cs.drop ((0+i)*E.sz e)).take (E.sz e)) d x:=by
    intro i d hd
    rw[List.getElem?_map] at hd
    cases hy':ys[i]? with
    | none=>rw[hy'] at hd;simp at hd
    | some y=>
     rw[hy'] at hd
     simp only[Option.map_some,Option.some.injEq] at hd
     subst hd
     have hi:i<m:=by rw[<-hyl];exact (List.getElem?_eq_some_iff.1 hy').1
     have:=hget i hi
     rw[hy',hcs] at this
     rw[Nat.zero_add]
     exact open_any ok hD hB n e heD _ y.1 y.2 this
   obtain⟨xs,hxl,hxs⟩:=open_list (fun i=>(cs.drop (i*E.sz e)).take (E.sz e)) _ 0 each2
   rw[List.length_map,hyl] at hxl
   obtain⟨x,ex⟩:=hA xs hxl
   refine⟨x,?_,fun j=>?_,fun j=>?_,by rw[ex,hy];rfl⟩
   ·rw[ex]
    have rc:=rc_list (E:=E) (W:=W) (fun i=>(cs.drop (i*E.sz e)).take (E.sz e)) xs 0 fun i y hy'=>by
     obtain⟨d,-,hd⟩:=hxs i y hy'
     exact hd.rc
    simp only[Nat.zero_add] at rc
    rw[hxl,cut_flat cs (E.sz e) m (by rw[hlen,hct,hsz])] at rc
    simpa using RC.arr hxl rc .nil
   ·rw[ex]
    cases j with
    | zero=>trivial
    | succ j=>
     refine⟨hxl,fun y hy'=>?_⟩
     obtain⟨i,hi⟩:=List.getElem?_of_mem hy'
     obtain⟨d,-,hd⟩:=hxs i y hi
     exact hd.wf j
   ·rw[ex]
    cases j with
    | zero=>exact Nat.zero_le _
    | succ j=>
     have h1:=hB.agg (ys.map (·.1))
     have h2:=sum_le (fun x=>ms E j (E.enc e x)) B xs (ys.map (·.1)) (by rw[hxl,List.length_map,hyl]) fun i y d hy' hd=>by
      obtain⟨d',h1,h2⟩:=hxs i y hy'
      rw[hd] at h1
      obtain rfl:=Option.some.inj h1
      exact h2.ms j
     simp only[ms]
     omega
  | st fs=>
   rw[hy] at hT hu
   simp only at hT
   obtain⟨hfD,hoff,hA⟩:=hT
   obtain⟨fields,hu,hfs⟩:=hu
   have hct:=sz_eq ok (t:=t) (by rw[hy];simp)
   obtain⟨ys,n',hn',hx,hlen,hyl,hget⟩:=DataW.trod_struct hu h
   obtain rfl:n=n':=by omega
   simp only[Prod.mk.injEq] at hx
   obtain⟨rfl,-⟩:=hx
   have hfl:fs.length=fields.size:=by rw[hfs];simp
   obtain⟨-,l,q1,q2,q3,q4⟩:=open_fields (E:=E) (W:=W) (B:=B) ok (cs:=cs) fs (ys.map (·.1)) 0 (E.sz t) hoff (by rw[hlen,hct];exact Nat.le_refl _) (by rw[List.length_map,hyl,hfl]) fun i f d hf hd=>by
    rw[List.getElem?_map] at hd
    cases hy':ys[i]? with
    | none=>rw[hy'] at hd;simp at hd
    | some y=>
     rw[hy'] at hd
     simp only[Option.map_some,Option.some.injEq] at hd
     subst hd
     rw[hfs,List.getElem?_map] at hf
     cases hf':fields.toList[i]? with
     | none=>rw[hf'] at hf;simp at hf
     | some fl=>
      rw[hf'] at hf
      simp only[Option.map_some,Option.some.injEq] at hf
      subst hf
      have hfm:fl.type∈D:=hfD (fl.type,fl.offset) (by rw[hfs];exact List.mem_map.2 ⟨fl,List.mem_of_getElem? hf',rfl⟩)
      have hey:E.ty fl.type≠.no:=by
       intro hn
       have:=hD _ hfm
       unfold DataT at this
       rw[hn] at this
       exact this
      have:=hget i fl (by simpa using hf')
      rw[hy',sz_eq ok hey] at this
      exact open_any ok hD hB n fl.type hfm _ y.1 y.2 this
   obtain⟨x,ex⟩:=hA l q1
   refine⟨x,?_,fun j=>?_,fun j=>?_,by rw[ex,hy];rfl⟩
   ·rw[ex]
    rw[List.drop_zero,Nat.sub_zero,List.take_of_length_le (by rw[hlen,hct];exact Nat.le_refl _)] at q2
    simpa using RC.agg q2 .nil
   ·rw[ex];cases j with
    | zero=>trivial
    | succ j=>exact q3 j
   ·rw[ex];cases j with
    | zero=>exact Nat.zero_le _
    | succ j=>
     have:=q4 j
     have:=hB.agg (ys.map (·.1))
     simp only[ms]
     omega
end
end Go.V

set_option linter.unusedVariables false
set_option linter.unusedSimpArgs false
namespace Go.V
open Go.ChangeShapes Go.WideShapes Go.ChangeAt Go.RowKit
variable {U:Nat->Type}
def EncL(E:Env U):List TypeId->List (A U)->Prop
 | [],[]=>True
 | t::ts,a::l=>(∃ x:U t,E.enc t x=a)/\EncL E ts l
 | _,_=>False
section
variable {E:Env U} {D:List Nat} {H:Type} {enc:TypeId×Value->H} {W:World} {B:DataW H->Nat}
theorem agg_of(ok:EnvOk2 E)(hD:∀ e∈D,DataT E D e){t:Nat}(ht:t∈D){r:Reach}{b0:Nat}{v:Value}(hv:Value.okWide E.P W r b0 t v):isAggV v=rowTy (E.ty t):=by
 have hT:=hD t ht
 have hu:=ok.under t
 unfold DataT at hT
 cases hy:E.ty t with
 | no=>rw[hy] at hT;exact hT.elim
 | ptr e=>rw[hy] at hT;exact hT.elim
 | func=>rw[hy] at hT;exact hT.elim
 | int k=>rw[hy] at hu;obtain⟨n,rfl⟩:=okWide_int hu hv;rfl
 | bool=>rw[hy] at hu;obtain⟨n,rfl⟩:=okWide_bool hu hv;rfl
 | str=>rw[hy] at hu;obtain⟨n,rfl⟩:=okWide_string hu hv;rfl
 | sl e=>rw[hy] at hu;obtain⟨_,_,_,rfl⟩:=okWide_slice hu hv;rfl
 | arr n e=>
  rw[hy] at hu
  simp only[tyOk] at hu
  simp only[Value.okWide,hu] at hv
  obtain⟨cs,rfl,-⟩:=hv
  rfl
 | st fs=>
  rw[hy] at hu
  obtain⟨fields,hu,-⟩:=hu
  obtain⟨cs,rfl,-⟩:=okWide_struct hu hv
  rfl
theorem open_args(ok:EnvOk2 E)(hD:∀ e∈D,DataT E D e)(hB:Bulk B){r:Reach}{b0:Nat}:∀ (ts:List TypeId) (vs:List Value) (ds:List (DataW H)) (ps:List MemPlace),(∀ t∈ts,t∈D) →
  DataW.TrodAll enc E.P W 0 (fun _=>true) true ts vs ds ps->(∀ (j:Nat) t v,ts[j]?=some t->vs[j]?=some v->Value.okWide E.P W r b0 t v) →
  ∃ as,EncL E ts as/\RVs E W (Below W) noNm as vs/\(∀ m,∀ a∈as,wf E m a)/\∀ m,(as.map fun a=>ms E m a).sum<=(ds.map B).sum
 | [],vs,ds,ps,_,h,_=>by
  obtain⟨rfl,rfl,-⟩:=trodAll_nil h
  exact⟨[],trivial,trivial,by simp,by simp⟩
 | t::ts,vs,ds,ps,ht,h,hv=>by
  obtain⟨v,vs,d,ds,p,q,rfl,rfl,rfl,⟨n,h0⟩,hr⟩:=trodAll_cons h
  obtain⟨as,h1,h2,h3,h4⟩:=open_args ok hD hB ts vs ds q (fun t h=>ht t (by simp[h])) hr fun j t v h1 h2=>hv (j+1) t v (by simpa using h1) (by simpa using h2)
  obtain⟨x,hx⟩:=open_any ok hD hB n t (ht t (by simp)) _ d p h0
  refine⟨E.enc t x::as,⟨⟨x,rfl⟩,h1⟩,⟨.inr ⟨hx.rc,?_⟩,h2⟩,?_,?_⟩
  ·rw[hx.ag,agg_of ok hD (ht t (by simp)) (hv 0 t v rfl rfl)]
  ·intro m a ha
   rcases List.mem_cons.1 ha with rfl|ha
   ·exact hx.wf m
   ·exact h3 m a ha
  ·intro m
   have:=hx.ms m
   have:=h4 m
   simp only[List.map_cons,List.sum_cons]
   omega
theorem trods_stay{P:Program}(hl:laidOutB P=true){W W':World}{sp:Nat->Bool}:∀ (ts:List TypeId) (vs:List Value) (ds:List (DataW H)) (ps:List MemPlace),(∀ t∈ts,P.readableRec t=true/\t<P.types.size) →
  DataW.TrodAll enc P W 0 (fun _=>true) true ts vs ds ps->(∀ p∈ps,W.sameAt W' p)->(∀ p∈ps,sp p.block=true)->DataW.TrodAll enc P W' 0 sp true ts vs ds ps
 | [],vs,ds,ps,_,h,_,_=>by
  obtain⟨rfl,rfl,rfl⟩:=trodAll_nil h
  exact trodAll_mk0
 | t::ts,vs,ds,ps,ht,h,hs,hsp=>by
  obtain⟨v,vs,d,ds,p,q,rfl,rfl,rfl,h0,hr⟩:=trodAll_cons h
  exact trodAll_cons_mk (WideElems.Trod_stays hl (ht t (by simp)).1 (ht t (by simp)).2 h0 (fun x hx=>hs x (by simp[hx])) fun x hx=>hsp x (by simp[hx]))
   (trods_stay hl ts vs ds q (fun t h=>ht t (by simp[h])) hr (fun x hx=>hs x (by simp[hx])) fun x hx=>hsp x (by simp[hx]))
theorem below_of{W W':World}(h:Fr (fun _=>False) W W'):RowKit.Below W.heap.size W W':=
 ⟨h.os,h.tape,h.out,h.size,fun k hk=>h.same k hk (fun h=>h)⟩
theorem law_contract(ok:EnvOk2 E)(hD:∀ e∈D,DataT E D e)(hB:Bulk B){T:Nat->Tab U}(hT:∀ k,TSound E (T k)){f:FuncId}(hnp:Nat.blt f 1000000=true/\memN f E.procs=false){fn:Func}
  {Q:Nat->Prop} (hlaw:∀ as N,EncL E fn.params.toList as->(∀ m,∀ a∈as,wf E m a)->(∀ m,(as.map fun a=>ms E m a).sum<=N)->Q N->∃ k,T k f as [] fun r _=>r=.bool true)
  {s:ChangeSpec} (hvars:s.vars=[]) (hspec:∀ ds:List (DataW H),ds.length=fn.params.size->s.fn H ds={ results:=[.lit (.bool true)],args:=ds })
  (hl:laidOutB E.P=true) (hpar:∀ t∈fn.params.toList,t∈D) (hread:∀ t∈fn.params.toList,E.P.readableRec t=true/\t<E.P.types.size) {tb:TypeId} (hres:fn.resultTypes = #[tb]) (htb:E.P.underlying tb=some .bool)
  {args:Array Value} {ds gs:List (DataW H)} {before:List MemPlace} {b0:Nat}
  (hglo:∀ g,RT E W (Below W) noNm (E.glob g) (.pointer (some ⟨g,0,.none⟩))) (hval:∀ (j:Nat) t v,fn.params[j]?=some t->args[j]?=some v->Value.okWide E.P W .any b0 t v)
  (hW:DataW.Whole enc E.P fn.params.toList s.vars false W args.toList ds gs before) (hQ:Q (((ds++gs).map B).sum)) :
  Calls E.P f args W fun e W'=>∃ v,e=.returned v/\s.post enc E.P fn false true false false W args v W':=by
 have hW':=hW
 obtain⟨p,q,hA,hV,rfl,hfz,hnd⟩:=hW
 rw[hvars] at hV
 obtain⟨rfl,rfl⟩:=trodVars_none hV
 rw[List.append_nil] at hQ
 rw[List.append_nil] at hW'
 have hlen:=(trodAll_length hA).2
 obtain⟨as,h1,h2,h3,h4⟩:=open_args ok hD hB (r:=.any) (b0:=b0) fn.params.toList args.toList ds p hpar hA fun j t v h1 h2=>hval j t v (by simpa using h1) (by simpa using h2)
 obtain⟨k,hk⟩:=hlaw as _ h1 h3 h4 hQ
 obtain⟨-,hS⟩:=((hT k f as [] _ hk).1 hnp.1).1 hnp.2 rfl
 refine (hS W (Below W) args h2 (fun B ⟨g,hg⟩=>hg.2) ⟨fun B h=>h,fun c x B h=>(by cases h.1),hglo,fun c x B h=>(by cases h.1),fun c x c' x' B h=>(by cases h.1)⟩).mono ?_
 rintro e W' ⟨r,v,bs,St',rfl,hR⟩
 have hr:=hR.k
 subst hr
 have hv:v=.bool true:=by
  have:=hR.val
  simp only[RTb] at this
  obtain⟨q1,q2⟩:=this
  cases v with
  | agg cs=>simp[isAggV,isAgg] at q2
  | bool b=>
   simp only[Value.cells] at q1
   cases q1;rfl
  | _=>simp only[Value.cells] at q1;cases q1
 subst hv
 have hb:=below_of (hR.fr.mono fun B _ ⟨c,x,h⟩=>by cases h.1)
 have hfn:=hspec ds (by rw[hlen];simp)
 have hlt:∀ x∈p,x.block<W.heap.size:=fun x hx=>hW'.lt x hx
 have hargs:∀ sp:Nat->Bool,(∀ x∈p,sp x.block=true)->DataW.TrodAll enc E.P W' 0 sp true fn.params.toList args.toList ds p:=fun sp hsp=>
  trods_stay hl _ _ _ _ hread hA (fun x hx=>hb.same (hlt x hx)) hsp
 have hres':∀ (b:Nat) (sp:Nat->Bool) (hd:Bool),DataW.TrodAll enc E.P W' b sp hd fn.resultTypes.toList ((Value.bool true).resultList fn.resultTypes.size) [.lit (.bool true)] []:=fun b sp hd=>by
  rw[hres]
  simpa[Value.resultList] using (trodAll_cons_mk (shut_bool htb true) trodAll_mk0)
 refine⟨_,rfl,ds,[],p,[],p,[],hW',?_,?_,?_,World.keptBut_mono (fun x hx=>⟨hx,.inr (.inl hx)⟩) (hb.frame (· ∈ p)),fun h=>?_⟩
 ·rw[List.append_nil,hfn];exact hres' _ _ _
 ·rw[List.append_nil,hfn];exact hargs _ fun x hx=>by simpa using hlt x hx
 ·rw[hvars,List.append_nil,hfn];rfl
 ·cases h
end
end Go.V

set_option linter.unusedVariables false
set_option linter.unusedSimpArgs false
namespace Go.V
variable {U:Nat->Type}
theorem laid_ints{H:Type}{P:Program}{W:World}{enc:TypeId×Value->H}{base:Nat}{spare:Nat->Bool}{held:Bool}{fuel t e n:Nat}{k:IntKind}{cs:List Value}{ns:List Int}{q:List MemPlace}
  (ht:P.underlying t=some (.array n e)) (he:P.underlying e=some (.int k)) (hc:P.cellsOf e=1) (hct:P.cellsOf t=n) (hn:ns.length=n) (h:DataW.trod enc P W base spare held fuel t cs=some (.agg (ns.map fun x=>.lit (.int k x)),q)):cs=ns.map (.int k):=by
 obtain⟨xs,m,rfl,hx,hlen,hn3,hel⟩:=DataW.trod_array ht h
 simp only[Prod.mk.injEq,DataW.agg.injEq] at hx
 refine List.ext_getElem? fun i=>?_
 by_cases hi:i<n
 ·have h1:=hel i hi
  rw[hc,Nat.mul_one] at h1
  have hxi:xs[i]?=some xs[i]:=List.getElem?_eq_getElem (by omega)
  rw[hxi] at h1
  obtain⟨x,e1,e2,-⟩:=DataW.trod_int he h1
  have h2:=congrArg (·[i]?) hx.1
  simp only[List.getElem?_map,hxi,Option.map_some] at h2
  rw[List.getElem?_eq_getElem (by omega:i<ns.length)] at h2
  simp only[Option.map_some,Option.some.injEq] at h2
  rw[e2] at h2
  have h3:x=ns[i]:=by
   have:=h2.symm
   simp only[DataW.lit.injEq,Lit.int.injEq,true_and] at this
   exact this
  have h4:=congrArg (·[0]?) e1
  simp only[List.getElem?_take,List.getElem?_drop,Nat.add_zero] at h4
  rw[List.getElem?_map,List.getElem?_eq_getElem (by omega:i<ns.length)]
  simpa[h3] using h4
 ·rw[List.getElem?_eq_none (by omega),List.getElem?_eq_none (by simp;omega)]
theorem glob_arr{E:Env U}{W:World}{name:String}{g n c:Nat}{k:IntKind}{cs:Array Value}{ns:List Int}{x:U c}{e:Nat}{l:List (U e)}(hg:E.P.globalNamed name=some g)(hv:W.var? E.P name=some cs)(hcs:cs.toList=ns.map (.int k))(hpos:0<ns.length)
  (hx:E.enc c x=.arr e ns.length l) (hl:l.map (E.enc e)=ns.map (.int k)):RT E W (Below W) noNm (.rp false c [x] 0 []) (.pointer (some ⟨g,0,.none⟩)):=by
 have hat:W.rangeAt g 0 (ns.map (Value.int k)):=by
  intro j v hj
  rw[Nat.zero_add,World.var?_cell hg hv j,<-Array.getElem?_toList,hcs]
  exact hj
 have hlt:g<W.heap.size:=by
  have h0:=hat 0 _ (List.getElem?_eq_getElem (by simpa using hpos))
  rcases Nat.lt_or_ge g W.heap.size with h|h
  ·exact h
  ·simp[World.cell?,Array.getElem?_eq_none h] at h0
 have rc:RC E W (Below W) noNm (l.map (E.enc e)) (ns.map (Value.int k)) []:=by
  rw[hl]
  clear hl hx hpos hcs hat
  induction ns with
  | nil=>exact .nil
  | cons n ns ih=>exact .int ih
 have hlen:l.length=ns.length:=by simpa using congrArg List.length hl
 have rc2:RC E W (Below W) noNm ([x].map (E.enc c)) (ns.map (Value.int k)) []:=by
  simp only[List.map_cons,List.map_nil,hx]
  simpa using RC.arr hlen rc .nil
 have:RC E W (Below W) noNm [.rp false c [x] 0 []] [.pointer (some ⟨g,0+(0*E.sz c+po []),.none⟩)] []:=.rp rc2 hat ⟨rfl,hlt⟩ (by simp) trivial .nil
 exact RT.of_rv (.mk1 (by simpa[po] using this) rfl rfl)
end Go.V

set_option linter.unusedVariables false
set_option linter.unusedSimpArgs false
namespace Go.V
theorem Hold_eq(p:Prop):Hold p=p:=propext ⟨Hold.out,Hold.mk⟩
theorem wrap64{n:Int}(h : -9223372036854775808<=n/\n<=9223372036854775807):IntKind.i64.wrap n=n:=by
 simp[IntKind.wrap,IntKind.signed,IntKind.bits]
 split<;>omega
theorem wrap8{n:Int}(h:0<=n/\n<=255):IntKind.u8.wrap n=n:=by
 simp[IntKind.wrap,IntKind.signed,IntKind.bits]
 omega
theorem wrap32{n:Int}(h:0<=n/\n<=4294967295):IntKind.u32.wrap n=n:=by
 simp[IntKind.wrap,IntKind.signed,IntKind.bits]
 omega
theorem cond_dec{p:Prop}[Decidable p]{A B:Prop}(h1:p->A)(h2:¬p->B):cond (decide p) A B:=by
 by_cases h:p
 ·simp[h,h1 h]
 ·simp[h,h2 h]
theorem cond_ndec{p:Prop}[Decidable p]{A B:Prop}(h1:¬p->A)(h2:p->B):cond (!decide p) A B:=by
 by_cases h:p
 ·simp[h,h2 h]
 ·simp[h,h1 h]
theorem cond_b{b:Bool}{A B:Prop}(h1:b=true->A)(h2:b=false->B):cond b A B:=by
 cases b
 ·exact h2 rfl
 ·exact h1 rfl
theorem cond_nb{b:Bool}{A B:Prop}(h1:b=false->A)(h2:b=true->B):cond (!b) A B:=by
 cases b
 ·exact h1 rfl
 ·exact h2 rfl
theorem cut_all{α:Type}(l:List α){n:Nat}(h:l.length<=n):cut l 0 n=l:=by
 unfold cut;rw[List.drop_zero,List.take_of_length_le h]
theorem drop_cons{α:Type}{l:List α}{j:Nat}(h:j<l.length):l.drop j=l[j]::l.drop (j+1):=List.drop_eq_getElem_cons h
theorem getD_at{α:Type}{l:List α}{j:Nat}{d:α}(h:j<l.length):l.getD j d=l[j]:=by simp[List.getD,h]
def B8(l:List Int):Prop:=∀ x∈l,0<=x/\x<=255
def Dig(d:List Int):Prop:=d.length=32/\B8 d
abbrev z32:List Int:=List.replicate 32 0
theorem B8.nil:B8 []:=fun _ h=>nomatch h
theorem B8.cons{x:Int}{l:List Int}(h:0<=x/\x<=255)(hl:B8 l):B8 (x::l):=List.forall_mem_cons.2 ⟨h,hl⟩
theorem B8.append{l m:List Int}(h:B8 l)(h':B8 m):B8 (l++m):=by
 intro x hx
 rcases List.mem_append.1 hx with hx|hx
 ·exact h x hx
 ·exact h' x hx
theorem B8.take{l:List Int}(h:B8 l)(n:Nat):B8 (l.take n):=fun x hx=>h x (List.mem_of_mem_take hx)
theorem B8.drop{l:List Int}(h:B8 l)(n:Nat):B8 (l.drop n):=fun x hx=>h x (List.mem_of_mem_drop hx)
theorem B8.flatten{l:List (List Int)}(h:∀ d∈l,B8 d):B8 l.flatten:=by
 intro x hx
 obtain⟨d,hd,hx⟩:=List.mem_flatten.1 hx
 exact h d hd x hx
theorem Dig.zero:Dig z32:=⟨by simp,by intro x hx;have:=List.eq_of_mem_replicate hx;omega⟩
def insAt{α:Type}(i:Int)(l vs:List α):List α:=l.take i.toNat++(vs++l.drop i.toNat)
def cmpS(a b:ByteArray):Int:=cond (slt a b) (-1) (cond (slt b a) 1 0)
end Go.V

set_option linter.unusedVariables false
set_option linter.unusedSimpArgs false
namespace Go.V
theorem ofInt_wrap(v:BitVec 32):BitVec.ofInt 32 (IntKind.u32.wrap (v.toNat:Int))=v:=by
 have:IntKind.u32.wrap (v.toNat:Int)=(v.toNat:Int):=wrap32 (by have:=v.isLt;omega)
 rw[this,BitVec.ofInt_natCast,BitVec.ofNat_toNat,BitVec.setWidth_eq]
theorem iand_eq(x y:Int):iand .u32 x y=IntKind.u32.wrap ((BitVec.ofInt 32 x &&& BitVec.ofInt 32 y).toNat:Int):=rfl
theorem ior_eq(x y:Int):ior .u32 x y=IntKind.u32.wrap ((BitVec.ofInt 32 x ||| BitVec.ofInt 32 y).toNat:Int):=rfl
theorem ixor_eq(x y:Int):ixor .u32 x y=IntKind.u32.wrap ((BitVec.ofInt 32 x ^^^ BitVec.ofInt 32 y).toNat:Int):=rfl
theorem ior_comm32(x y:Int):ior .u32 x y=ior .u32 y x:=by rw[ior_eq,ior_eq,BitVec.or_comm]
theorem ch_eq(e f g:Int):ixor .u32 (iand .u32 e f) (iand .u32 (ixor .u32 4294967295 e) g)=ixor .u32 (iand .u32 e (ixor .u32 f g)) g:=by
 simp only[iand_eq,ixor_eq,ofInt_wrap]
 congr 3
 rw[show BitVec.ofInt 32 4294967295=BitVec.allOnes 32 from rfl]
 apply BitVec.eq_of_getLsbD_eq
 intro i hi
 simp only[BitVec.getLsbD_xor,BitVec.getLsbD_and,BitVec.getLsbD_allOnes,hi,decide_true]
 generalize (BitVec.ofInt 32 e).getLsbD i=a
 generalize (BitVec.ofInt 32 f).getLsbD i=b
 generalize (BitVec.ofInt 32 g).getLsbD i=c
 cases a<;>cases b<;>cases c<;>rfl
theorem maj_eq(a b c:Int):ixor .u32 (ixor .u32 (iand .u32 a b) (iand .u32 a c)) (iand .u32 b c)=ior .u32 (iand .u32 a b) (iand .u32 c (ior .u32 a b)):=by
 simp only[iand_eq,ixor_eq,ior_eq,ofInt_wrap]
 congr 3
 apply BitVec.eq_of_getLsbD_eq
 intro i hi
 simp only[BitVec.getLsbD_xor,BitVec.getLsbD_and,BitVec.getLsbD_or]
 generalize (BitVec.ofInt 32 a).getLsbD i=x
 generalize (BitVec.ofInt 32 b).getLsbD i=y
 generalize (BitVec.ofInt 32 c).getLsbD i=z
 cases x<;>cases y<;>cases z<;>rfl
theorem wrap32_emod(x:Int):IntKind.u32.wrap x=x % 4294967296:=by
 simp[IntKind.wrap,IntKind.signed,IntKind.bits]
theorem wrap_add(x y:Int):IntKind.u32.wrap (IntKind.u32.wrap x+y)=IntKind.u32.wrap (x+y):=by
 simp only[wrap32_emod];omega
def rotI(x:Int)(n:Int):Int:=ior .u32 (ishl .u32 x (32-n)) (ishr .u32 x n)
def wrd(b:List Int)(t:Nat):Int:=ior .u32 (ior .u32 (ior .u32 (ishl .u32 (IntKind.u32.wrap (b.getD (4*t) 0)) 24) (ishl .u32 (IntKind.u32.wrap (b.getD (4*t+1) 0)) 16)) (ishl .u32 (IntKind.u32.wrap (b.getD (4*t+2) 0)) 8)) (IntKind.u32.wrap (b.getD (4*t+3) 0))
def nextw(w:List Int)(t:Nat):Int:=
 IntKind.u32.wrap (IntKind.u32.wrap (IntKind.u32.wrap (w.getD (t-16) 0+ixor .u32 (ixor .u32 (rotI (w.getD (t-15) 0) 7) (rotI (w.getD (t-15) 0) 18)) (ishr .u32 (w.getD (t-15) 0) 3))+w.getD (t-7) 0) +
  ixor .u32 (ixor .u32 (rotI (w.getD (t-2) 0) 17) (rotI (w.getD (t-2) 0) 19)) (ishr .u32 (w.getD (t-2) 0) 10))
def wordsGo(b:List Int):Nat->Nat->List Int->List Int
 | 0,_,w=>w
 | m+1,t,w=>wordsGo b m (t+1) (w.set t (wrd b t))
def schedGo:Nat->Nat->List Int->List Int
 | 0,_,w=>w
 | m+1,t,w=>schedGo m (t+1) (w.set t (nextw w t))
def schedW(b:List Int):List Int:=schedGo 48 16 (wordsGo b 16 0 (List.replicate 64 0))
def keyL:List Int:=[1116352408,1899447441,3049323471,3921009573,961987163,1508970993,2453635748,2870763221,3624381080,310598401,607225278,1426881987,1925078388,2162078206,2614888103,3248222580,3835390401,4022224774,264347078,604807628,770255983,1249150122,1555081692,1996064986,2554220882,2821834349,2952996808,3210313671,3336571891,3584528711,113926993,338241895,666307205,773529912,1294757372,1396182291,1695183700,1986661051,2177026350,2456956037,2730485921,2820302411,3259730800,3345764771,3516065817,3600352804,4094571909,275423344,430227734,506948616,659060556,883997877,958139571,1322822218,1537002063,1747873779,1955562222,2024104815,2227730452,2361852424,2428436474,2756734187,3204031479,3329325298]
def sOne(w:List Int)(t:Nat)(e f g h:Int):Int:=
 IntKind.u32.wrap (IntKind.u32.wrap (IntKind.u32.wrap (IntKind.u32.wrap (h+ixor .u32 (ixor .u32 (rotI e 6) (rotI e 11)) (rotI e 25))+ixor .u32 (iand .u32 e (ixor .u32 f g)) g)+keyL.getD t 0)+w.getD t 0)
def sTwo(a b c:Int):Int:=IntKind.u32.wrap (ixor .u32 (ixor .u32 (rotI a 2) (rotI a 13)) (rotI a 22)+ior .u32 (iand .u32 a b) (iand .u32 c (ior .u32 a b)))
def rounds(w:List Int):Nat->Nat->Int->Int->Int->Int->Int->Int->Int->Int->List Int
 | 0,_,a,b,c,d,e,f,g,h=>[a,b,c,d,e,f,g,h]
 | m+1,t,a,b,c,d,e,f,g,h=>rounds w m (t+1) (IntKind.u32.wrap (sOne w t e f g h+sTwo a b c)) a b c (IntKind.u32.wrap (d+sOne w t e f g h)) e f g
def addGo(x:List Int):Nat->Nat->List Int->List Int
 | 0,_,w=>w
 | m+1,t,w=>addGo x m (t+1) (w.set t (IntKind.u32.wrap (w.getD t 0+x.getD t 0)))
def comp(ws b:List Int):List Int:=
 addGo (rounds (schedW b) 64 0 (ws.getD 0 0) (ws.getD 1 0) (ws.getD 2 0) (ws.getD 3 0) (ws.getD 4 0) (ws.getD 5 0) (ws.getD 6 0) (ws.getD 7 0)) 8 0 ws
theorem addGo_len(x:List Int):∀ (m t:Nat) (w:List Int),(addGo x m t w).length=w.length
 | 0,_,w=>rfl
 | m+1,t,w=>by rw[addGo,addGo_len x m];simp
theorem comp_len(ws b:List Int):(comp ws b).length=ws.length:=addGo_len _ _ _ _
def absorb(h m:List Int):List Int:=if m.length<64 then h else absorb (comp h (m.take 64)) (m.drop 64)
termination_by m.length
decreasing_by rw[List.length_drop];omega
theorem absorb_short{h m:List Int}(hm:m.length<64):absorb h m=h:=by rw[absorb,if_pos hm]
theorem absorb_long{h m:List Int}(hm:¬m.length<64):absorb h m=absorb (comp h (m.take 64)) (m.drop 64):=by rw[absorb,if_neg hm]
theorem absorb_append:∀ (q:Nat) (m c h:List Int),m.length=64*q->absorb h (m++c)=absorb (absorb h m) c:=by
 intro q
 induction q with
 | zero=>
  intro m c h hm
  obtain rfl:m=[]:=List.eq_nil_of_length_eq_zero (by omega)
  rw[absorb_short (m:=[]) (by simp)];rfl
 | succ q ih=>
  intro m c h hm
  rw[absorb_long (m:=m++c) (by rw[List.length_append];omega),absorb_long (m:=m) (by omega),List.take_append_of_le_length (by omega),List.drop_append_of_le_length (by omega)]
  exact ih _ _ _ (by rw[List.length_drop];omega)
theorem absorb_one{h b:List Int}(hb:b.length=64):absorb h b=comp h b:=by
 rw[absorb_long (by omega),List.take_of_length_le (by omega),List.drop_of_length_le (by omega),absorb_short (by simp)]
def begin8:List Int:=[1779033703,3144134277,1013904242,2773480762,1359893119,2600822924,528734635,1541459225]
def lenB(n:Int)(i:Nat):Int:=IntKind.u8.wrap (ishr .u64 (IntKind.u64.wrap (IntKind.u64.wrap n*8)) (56-8*(i:Int)))
def pad64(n:Nat):Nat:=(120-(n+1) % 64) % 64
def tailOf(n:Nat):List Int:=128::(List.replicate (pad64 n) 0++[lenB n 0,lenB n 1,lenB n 2,lenB n 3,lenB n 4,lenB n 5,lenB n 6,lenB n 7])
def digB(ws:List Int)(i:Nat):Int:=IntKind.u8.wrap (ishr .u32 (ws.getD (i / 4) 0) (24-8*((i % 4:Nat):Int)))
def digL(ws:List Int):List Int:=(List.range 32).map (digB ws)
def shaL(m:List Int):List Int:=digL (absorb begin8 (m++tailOf m.length))
theorem wrap8_B(x:Int):0<=IntKind.u8.wrap x/\IntKind.u8.wrap x<=255:=by
 simp[IntKind.wrap,IntKind.signed,IntKind.bits];omega
theorem shaL_dig(m:List Int):Dig (shaL m):=by
 refine⟨by simp[shaL,digL],?_⟩
 intro x hx
 simp only[shaL,digL,List.mem_map] at hx
 obtain⟨i,-,rfl⟩:=hx
 exact wrap8_B _
theorem word_sum{a b c d:Int}(ha:0<=a/\a<=255)(hb:0<=b/\b<=255)(hc:0<=c/\c<=255)(hd:0<=d/\d<=255) :
  IntKind.u32.wrap (IntKind.u32.wrap (IntKind.u32.wrap (ishl .u32 (IntKind.u32.wrap a) 24+ishl .u32 (IntKind.u32.wrap b) 16)+ishl .u32 (IntKind.u32.wrap c) 8)+IntKind.u32.wrap d) =
   ior .u32 (ior .u32 (ior .u32 (ishl .u32 (IntKind.u32.wrap a) 24) (ishl .u32 (IntKind.u32.wrap b) 16)) (ishl .u32 (IntKind.u32.wrap c) 8)) (IntKind.u32.wrap d):=by
 obtain⟨a,rfl⟩:=Int.eq_ofNat_of_zero_le ha.1
 obtain⟨b,rfl⟩:=Int.eq_ofNat_of_zero_le hb.1
 obtain⟨c,rfl⟩:=Int.eq_ofNat_of_zero_le hc.1
 obtain⟨d,rfl⟩:=Int.eq_ofNat_of_zero_le hd.1
 have sh:∀ (x k:Nat),x<=255->k<=24->ishl .u32 (IntKind.u32.wrap (x:Int)) (k:Int)=((x*2 ^ k:Nat):Int):=by
  intro x k hx hk
  have hp:2 ^ k<=2 ^ 24:=Nat.pow_le_pow_right (by decide) hk
  have:x*2 ^ k<=255*2 ^ 24:=Nat.mul_le_mul hx hp
  unfold ishl
  rw[wrap32 (n:=(x:Int)) (by omega),Int.toNat_natCast,Nat.min_eq_left (by show k<=32;omega)]
  rw[show (x:Int)*2 ^ k=((x*2 ^ k:Nat):Int) by push_cast;rfl,wrap32 (by omega)]
 have or32:∀ (x y:Nat),x<2 ^ 32->y<2 ^ 32->ior .u32 (x:Int) (y:Int)=((x ||| y:Nat):Int):=by
  intro x y hx hy
  have h:x ||| y<2 ^ 32:=Nat.or_lt_two_pow hx hy
  show IntKind.u32.wrap ((BitVec.ofInt 32 (x:Int) ||| BitVec.ofInt 32 (y:Int)).toNat:Int)=_
  simp only[BitVec.ofInt_natCast,BitVec.toNat_or,BitVec.toNat_ofNat]
  rw[Nat.mod_eq_of_lt hx,Nat.mod_eq_of_lt hy,wrap32 (by omega)]
 have add_or:∀ (x y k:Nat),y<2 ^ k->x*2 ^ k ||| y=x*2 ^ k+y:=by
  intro x y k h
  have:=Nat.shiftLeft_add_eq_or_of_lt h x
  rw[Nat.shiftLeft_eq] at this
  exact this.symm
 have e24:=sh a 24 (by omega) (by omega)
 have e16:=sh b 16 (by omega) (by omega)
 have e8:=sh c 8 (by omega) (by omega)
 have ed:IntKind.u32.wrap (d:Int)=(d:Int):=wrap32 (by omega)
 rw[show ((24:Nat):Int)=24 from rfl] at e24
 rw[show ((16:Nat):Int)=16 from rfl] at e16
 rw[show ((8:Nat):Int)=8 from rfl] at e8
 rw[e24,e16,e8,ed]
 have p24:(2:Nat) ^ 24=16777216:=rfl
 have p16:(2:Nat) ^ 16=65536:=rfl
 have p8:(2:Nat) ^ 8=256:=rfl
 have p32:(2:Nat) ^ 32=4294967296:=rfl
 rw[or32 _ _ (by omega) (by omega),add_or a (b*2 ^ 16) 24 (by omega)]
 rw[or32 _ _ (by omega) (by omega),show a*2 ^ 24+b*2 ^ 16=(a*256+b)*2 ^ 16 by omega,add_or (a*256+b) (c*2 ^ 8) 16 (by omega)]
 rw[or32 _ _ (by omega) (by omega),show (a*256+b)*2 ^ 16+c*2 ^ 8=((a*256+b)*256+c)*2 ^ 8 by omega,add_or ((a*256+b)*256+c) d 8 (by omega)]
 simp only[wrap32_emod]
 omega
end Go.V

set_option linter.unusedVariables false
set_option linter.unusedSimpArgs false
namespace Go.V
def bitN(p:List Int)(i:Nat):Nat:=(p.getD (i / 8) 0).toNat / 2 ^ (7-i % 8) % 2
theorem div2_tb(x k:Nat):x / 2 ^ k % 2=(x.testBit k).toNat:=by
 rw[Nat.testBit_eq_decide_div_mod_eq]
 rcases Nat.mod_two_eq_zero_or_one (x / 2 ^ k) with h|h<;>rw[h]<;>rfl
theorem bitN_byte(p:List Int)(i j:Nat)(hj:j<8):bitN p (8*i+j)=(p.getD i 0).toNat / 2 ^ (7-j) % 2:=by
 unfold bitN
 rw[show (8*i+j) / 8=i by omega,show (8*i+j) % 8=j by omega]
structure Lz (x z:Nat):Prop where
 lt:z<8
 zero:∀ j,j<z->x / 2 ^ (7-j) % 2=0
 one:x / 2 ^ (7-z) % 2=1
theorem mask_bit{x:Int}{j:Nat}(hx:0<=x/\x<=255)(hj:j<=7):(iand .u8 x (ishl .u8 1 (j:Int))=0)↔x.toNat / 2 ^ j % 2=0:=by
 obtain⟨x,rfl⟩:=Int.eq_ofNat_of_zero_le hx.1
 have e1:ishl .u8 1 (j:Int)=((2 ^ j:Nat):Int):=by
  have:j=0\/j=1\/j=2\/j=3\/j=4\/j=5\/j=6\/j=7:=by omega
  rcases this with rfl|rfl|rfl|rfl|rfl|rfl|rfl|rfl<;>rfl
 have hp:2 ^ j<=2 ^ 7:=Nat.pow_le_pow_right (by decide) hj
 have e2:iand .u8 (x:Int) ((2 ^ j:Nat):Int)=((x &&& 2 ^ j:Nat):Int):=by
  have h:x &&& 2 ^ j<256:=Nat.lt_of_le_of_lt Nat.and_le_left (by omega)
  show IntKind.u8.wrap ((BitVec.ofInt 8 (x:Int) &&& BitVec.ofInt 8 ((2 ^ j:Nat):Int)).toNat:Int)=_
  simp only[BitVec.ofInt_natCast,BitVec.toNat_and,BitVec.toNat_ofNat]
  rw[Nat.mod_eq_of_lt (by omega:x<2 ^ 8),Nat.mod_eq_of_lt (by omega:2 ^ j<2 ^ 8),wrap8 (by omega)]
 rw[e1,e2,Int.toNat_natCast,div2_tb]
 have e3:x &&& 2 ^ j=(x.testBit j).toNat*2 ^ j:=by
  apply Nat.eq_of_testBit_eq
  intro i
  rw[Nat.testBit_and,Nat.testBit_two_pow]
  by_cases h:j=i
  ·subst h
   cases x.testBit j<;>simp
  ·cases hb:x.testBit j<;>simp[h,Nat.testBit_two_pow]
 rw[e3]
 have:0<2 ^ j:=Nat.two_pow_pos j
 cases x.testBit j
 ·simp
 ·have h2:((2:Int) ^ j=0)↔False:=by
   refine⟨fun h=>?_,False.elim⟩
   have:((2 ^ j:Nat):Int)=0:=by rw[Int.natCast_pow];exact h
   omega
  simp[h2]
def shortL(w:Nat)(m:List Int):List Int:=(shaL m).take w++List.replicate (32-w) 0
theorem shortL_dig{w:Nat}(hw:w<=32)(m:List Int):Dig (shortL w m):=by
 refine⟨by unfold shortL;rw[List.length_append,List.length_take,(shaL_dig m).1,List.length_replicate];omega,?_⟩
 exact ((shaL_dig m).2.take w).append fun x hx=>by have:=List.eq_of_mem_replicate hx;omega
def nodeB(l r:List Int):List Int:=1::(l++r)
def leafB(p v:List Int):List Int:=0::(p++v)
theorem nodeB_B8{l r:List Int}(hl:Dig l)(hr:Dig r):B8 (nodeB l r)/\(nodeB l r).length=65:=
 ⟨B8.cons (by decide) (hl.2.append hr.2),by simp[nodeB,hl.1,hr.1]⟩
theorem leafB_B8{l r:List Int}(hl:Dig l)(hr:Dig r):B8 (leafB l r)/\(leafB l r).length=65:=
 ⟨B8.cons (by decide) (hl.2.append hr.2),by simp[leafB,hl.1,hr.1]⟩
end Go.V
