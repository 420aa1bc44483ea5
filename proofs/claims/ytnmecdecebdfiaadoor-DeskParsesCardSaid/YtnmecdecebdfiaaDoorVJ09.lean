/- V: VOpen, VTop, VLaid, VLib, VTab, VTab2, VStr -/
import Derived.Test.YtnmecdecebdfiaaDoorVJ08
import Derived.ChangeArms
import Derived.OpenShut
import Derived.WideShapes
import Derived.WideKeyArgs
import Derived.ChangeSame
import Derived.ChangeAt
import Derived.RowKit
import Derived.ChangeCalls
import Derived.ChangeOld
import Derived.Carry
import Derived.MakeChecks
import Derived.LaidMore
import Derived.Lib.AtoiAll
import Derived.Lib.ItoaNum
import Derived.Lib.SlTrimSet
set_option linter.unusedVariables false
set_option linter.unusedSimpArgs false
namespace Go.V
variable {U:Nat->Type}
def ms(E:Env U):Nat->A U->Nat
 | 0,_=>0
 | n+1,a=>match a with
  | .str s=>s.size+1
  | .agg l=>(l.map fun x=>ms E n x).sum+1
  | .ro _ c l=>(l.map fun x=>ms E n (E.enc c x)).sum+1
  | .arr c _ l=>(l.map fun x=>ms E n (E.enc c x)).sum+1
  | _=>1
def wf(E:Env U):Nat->A U->Prop
 | 0,_=>True
 | n+1,a=>match a with
  | .int k x=>k.min<=x/\x<=k.max
  | .str s=>s.size<=maxLen
  | .agg l=>∀ x∈l,wf E n x
  | .ro _ c l=>l.length<=maxLen/\∀ x∈l,wf E n (E.enc c x)
  | .arr c m l=>l.length=m/\∀ x∈l,wf E n (E.enc c x)
  | _=>True
def EncAll(E:Env U):List (TypeId×Nat)->List (A U)->Prop
 | [],[]=>True
 | f::fs,a::l=>(∃ x:U f.1,E.enc f.1 x=a)/\EncAll E fs l
 | _,_=>False
def offs(E:Env U):List (TypeId×Nat)->Nat->Option Nat
 | [],k=>some k
 | f::fs,k=>cond (Nat.beq f.2 k) (offs E fs (k+E.sz f.1)) .none
def DataT(E:Env U)(D:List Nat)(t:Nat):Prop:=match E.ty t with
 | .int k=>∀ n,∃ x:U t,E.enc t x=.int k n
 | .bool=>∀ b,∃ x:U t,E.enc t x=.bool b
 | .str=>∀ s,∃ x:U t,E.enc t x=.str s
 | .sl e=>e∈D/\0<E.sz e/\∀ l:List (U e),∃ x:U t,E.enc t x=.ro false e l
 | .arr m e=>e∈D/\m*E.sz e=E.sz t/\∀ l:List (U e),l.length=m->∃ x:U t,E.enc t x=.arr e m l
 | .st fs=>(∀ f∈fs,f.1∈D)/\offs E fs 0=some (E.sz t)/\∀ l,EncAll E fs l->∃ x:U t,E.enc t x=.agg l
 | _=>False
structure Bulk {H:Type} (B:DataW H->Nat):Prop where
 str:∀ s,s.length+1<=B (.lit (.string s))
 one:∀ d,1<=B d
 sl:∀ l m,(l.map B).sum+1<=B (.slice l m)
 agg:∀ l,(l.map B).sum+1<=B (.agg l)
section
variable {E:Env U} {D:List Nat} {H:Type} {enc:TypeId×Value->H} {W:World} {B:DataW H->Nat}
def Below(W:World):Ck U->Nat->Prop:=fun g b=>isOn g=true/\b<W.heap.size
theorem sz_eq(ok:EnvOk2 E){t:Nat}(h:E.ty t≠.no):E.P.cellsOf t=E.sz t:=by
 obtain⟨i,h1,h2,h3⟩:=ok.info t h
 simp[Program.cellsOf,h1,h2]
theorem sum_le{α β:Type}(f:α->Nat)(g:β->Nat):∀ (l:List α) (m:List β),l.length=m.length->(∀ (i:Nat) x y,l[i]?=some x->m[i]?=some y->f x<=g y)->(l.map f).sum<=(m.map g).sum
 | [],[],_,_=>by simp
 | [],_::_,h,_=>by simp at h
 | _::_,[],h,_=>by simp at h
 | a::l,b::m,h,k=>by
  have h1:=k 0 a b rfl rfl
  have h2:=sum_le f g l m (by simpa using h) fun i x y hx hy=>k (i+1) x y (by simpa using hx) (by simpa using hy)
  simp only[List.map_cons,List.sum_cons]
  omega
structure Opened (E:Env U) (W:World) (B:DataW H->Nat) (t:Nat) (cs:List Value) (d:DataW H) (x:U t):Prop where
 rc:RC E W (Below W) noNm [E.enc t x] cs []
 wf:∀ m,wf E m (E.enc t x)
 ms:∀ m,ms E m (E.enc t x)<=B d
 ag:isAgg (E.enc t x)=rowTy (E.ty t)
theorem open_list{t:Nat}(cs:Nat->List Value):∀ (ds:List (DataW H)) (k:Nat),(∀ (i:Nat) d,ds[i]?=some d->∃ x:U t,Opened E W B t (cs (k+i)) d x) →
  ∃ xs:List (U t),xs.length=ds.length/\(∀ (i:Nat) x,xs[i]?=some x->∃ d,ds[i]?=some d/\Opened E W B t (cs (k+i)) d x)
 | [],k,_=>⟨[],rfl,by simp⟩
 | d::ds,k,h=>by
  obtain⟨x,hx⟩:=h 0 d rfl
  obtain⟨xs,h1,h2⟩:=open_list cs ds (k+1) fun i d hd=>by
   obtain⟨x,hx⟩:=h (i+1) d (by simpa using hd)
   exact⟨x,by rwa [Nat.add_assoc,Nat.add_comm 1 i]⟩
  refine⟨x::xs,by simp[h1],fun i y hy=>?_⟩
  cases i with
  | zero=>simp at hy;subst hy;exact⟨d,rfl,hx⟩
  | succ i=>
   obtain⟨d',h3,h4⟩:=h2 i y (by simpa using hy)
   exact⟨d',by simpa using h3,by rwa [Nat.add_assoc,Nat.add_comm 1 i] at h4⟩
theorem rc_list{t:Nat}(cs:Nat->List Value):∀ (xs:List (U t)) (k:Nat),(∀ (i:Nat) x,xs[i]?=some x->RC E W (Below W) noNm [E.enc t x] (cs (k+i)) []) →
  RC E W (Below W) noNm (xs.map (E.enc t)) ((List.range xs.length).flatMap fun i=>cs (k+i)) []
 | [],k,_=>by simpa using RC.nil
 | x::xs,k,h=>by
  have h1:=h 0 x rfl
  have h2:=rc_list cs xs (k+1) fun i y hy=>by
   have:=h (i+1) y (by simpa using hy)
   rwa [Nat.add_assoc,Nat.add_comm 1 i]
  have h3:=RC.cons h1 h2
  simp only[List.map_cons,List.length_cons]
  rw[List.range_succ_eq_map,List.flatMap_cons,List.flatMap_map]
  have e:(fun i=>cs (k+1+i))=fun i=>cs (k+i.succ):=by funext i;congr 1;omega
  rw[e] at h3
  simpa using h3
theorem cut_flat(cs:List Value)(s:Nat):∀ n,cs.length=n*s->((List.range n).flatMap fun i=>(cs.drop (i*s)).take s)=cs:=by
 intro n
 induction n generalizing cs with
 | zero=>intro h;simp at h;simp[h]
 | succ n ih=>
  intro h
  rw[List.range_succ_eq_map,List.flatMap_cons,List.flatMap_map]
  have h1:=ih (cs.drop s) (by rw[List.length_drop,h,Nat.add_mul];omega)
  have e:(fun a=>List.take s (List.drop (Nat.succ a*s) cs))=fun i=>((cs.drop s).drop (i*s)).take s:=by
   funext i;rw[List.drop_drop];congr 2;rw[Nat.succ_mul];omega
  rw[e,h1]
  simp
theorem open_fields(ok:EnvOk2 E){cs:List Value}:∀ (fs:List (TypeId×Nat)) (ds:List (DataW H)) (k e:Nat),offs E fs k=some e->e<=cs.length->ds.length=fs.length →
  (∀ (i:Nat) f d,fs[i]?=some f->ds[i]?=some d->∃ x:U f.1,Opened E W B f.1 ((cs.drop f.2).take (E.sz f.1)) d x) →
  k<=e/\∃ l,EncAll E fs l/\RC E W (Below W) noNm l ((cs.drop k).take (e-k)) []/\(∀ m,∀ a∈l,wf E m a)/\∀ m,(l.map fun x=>ms E m x).sum<=(ds.map B).sum
 | [],[],k,e,ho,he,_,_=>by
  simp only[offs,Option.some.injEq] at ho
  subst ho
  exact⟨Nat.le_refl _,[],trivial,by simpa using RC.nil,by simp,by simp⟩
 | f::fs,d::ds,k,e,ho,he,hl,h=>by
  simp only[offs] at ho
  cases hb:Nat.beq f.2 k with
  | false=>rw[hb] at ho;simp at ho
  | true=>
   rw[hb] at ho
   simp only[cond_true] at ho
   have hk:=Nat.eq_of_beq_eq_true hb
   obtain⟨x,hx⟩:=h 0 f d rfl rfl
   obtain⟨h0,l,h1,h2,h3,h4⟩:=open_fields ok fs ds (k+E.sz f.1) e ho he (by simpa using hl) fun i f' d' hf hd=>h (i+1) f' d' (by simpa using hf) (by simpa using hd)
   have hlen:=hx.rc.length ok.toEnvOk
   simp only[sizes,Nat.add_zero,ok.encSize] at hlen
   refine⟨by omega,E.enc f.1 x::l,⟨⟨x,rfl⟩,h1⟩,?_,?_,?_⟩
   ·have:=RC.cons hx.rc h2
    rw[hk] at this
    have e1:(List.take (E.sz f.1) (List.drop k cs))++(List.take (e-(k+E.sz f.1)) (List.drop (k+E.sz f.1) cs))=List.take (e-k) (List.drop k cs):=by
     rw[<-List.drop_drop,show e-k=E.sz f.1+(e-(k+E.sz f.1)) by omega,List.take_add]
    rw[e1] at this
    exact this
   ·intro m a ha
    rcases List.mem_cons.1 ha with rfl|ha
    ·exact hx.wf m
    ·exact h3 m a ha
   ·intro m
    have:=hx.ms m
    have:=h4 m
    simp only[List.map_cons,List.sum_cons]
    omega
 | [],_::_,_,_,_,_,hl,_=>by simp at hl
 | _::_,[],_,_,_,_,hl,_=>by simp at hl
theorem cells_at{w:World}{a:Addr}{n:Nat}{cs:List Value}(h:w.cells? 0 a n=some cs)(hn:0<n)(ha:a.spot=.none):cs.length=n/\∀ i,i<n->w.cell? ⟨a.block,a.off+i,.none⟩=cs[i]?:=by
 obtain⟨h1,h2,h3⟩:=World.cells?_some h
 refine⟨h2,fun i hi=>?_⟩
 rw[<-h3 i hi]
 unfold Addr.add
 split
 ·rename_i e;subst e;cases a;simp at ha;subst ha;rfl
 ·rfl
theorem spot_of{w:World}{a:Addr}{v:Value}(h:w.cell? a=some v):a.spot=.none/\a.block<w.heap.size:=by
 unfold World.cell? at h
 split at h
 ·rename_i c t f hh
  split at h
  ·cases h
  ·rename_i hs
   exact⟨by simpa using hs,(Array.getElem?_eq_some_iff.1 hh).1⟩
 ·cases h
theorem open_any(ok:EnvOk2 E)(hD:∀ e∈D,DataT E D e)(hB:Bulk B):∀ (n:Nat) (t:Nat),t∈D->∀ (cs:List Value) (d:DataW H) (ps:List MemPlace),
  DataW.trod enc E.P W 0 (fun _=>true) true n t cs=some (d,ps)->∃ x:U t,Opened E W B t cs d x
 | 0,t,ht,cs,d,ps,h=>by simp[DataW.trod] at h
 | n+1,t,ht,cs,d,ps,h=>by
  have hT:=hD t ht
  have hu:=ok.under t
  unfold DataT at hT
  cases hy:E.ty t with
  | no=>rw[hy] at hT;exact hT.elim
  | ifc=>rw[hy] at hT;exact hT.elim
  | ptr e=>rw[hy] at hT;exact hT.elim
  | func=>rw[hy] at hT;exact hT.elim
  | int k=>
   rw[hy] at hT hu
   simp only at hT
   obtain⟨m,rfl,hx,hw⟩:=DataW.trod_int hu h
   obtain⟨x,e⟩:=hT m
   simp only[Prod.mk.injEq] at hx
   obtain⟨rfl,rfl⟩:=hx
   simp only[Lit.wf,Bool.and_eq_true,decide_eq_true_eq] at hw
   refine⟨x,by rw[e];exact .int .nil,fun j=>?_,fun j=>?_,by rw[e,hy];rfl⟩
   ·rw[e];cases j with
    | zero=>trivial
    | succ j=>exact hw
   ·rw[e];cases j with
    | zero=>exact Nat.zero_le _
    | succ j=>exact hB.one _
  | bool=>
   rw[hy] at hT hu
   simp only at hT
   obtain⟨m,rfl,hx⟩:=DataW.trod_bool hu h
   obtain⟨x,e⟩:=hT m
   simp only[Prod.mk.injEq] at hx
   obtain⟨rfl,rfl⟩:=hx
   refine⟨x,by rw[e];exact .bool .nil,fun j=>?_,fun j=>?_,by rw[e,hy];rfl⟩
   ·rw[e];cases j<;>trivial
   ·rw[e];cases j with
    | zero=>exact Nat.zero_le _
    | succ j=>exact hB.one _
  | str=>
   rw[hy] at hT hu
   simp only at hT
   obtain⟨m,rfl,hx,hm⟩:=DataW.trod_string hu h
   obtain⟨x,e⟩:=hT m
   simp only[Prod.mk.injEq] at hx
   obtain⟨rfl,rfl⟩:=hx
   refine⟨x,by rw[e];exact .str .nil,fun j=>?_,fun j=>?_,by rw[e,hy];rfl⟩
   ·rw[e];cases j with
    | zero=>trivial
    | succ j=>exact hm
   ·rw[e];cases j with
    | zero=>exact Nat.zero_le _
    | succ j=>
     have:=hB.str m.data.toList
     simp only[ms]
     simp only[Array.length_toList] at this
     exact this
  | sl e=>
   rw[hy] at hT hu
   simp only at hT
   obtain⟨heD,hsz,hA⟩:=hT
   have hey:E.ty e≠.no:=by
    intro hn
    have:=hD e heD
    unfold DataT at this
    rw[hn] at this
    exact this
   have hcs:=sz_eq ok hey
   rcases DataW.trod_slice hu h with ⟨rfl,hx⟩|⟨a,len,cap,elems,rest,n',hn',rfl,hx,-,hlc,hcap,hel,hget,-,-⟩
   ·obtain⟨x,ex⟩:=hA []
    simp only[Prod.mk.injEq] at hx
    obtain⟨rfl,rfl⟩:=hx
    refine⟨x,by rw[ex];exact .roE .nil,fun j=>?_,fun j=>?_,by rw[ex,hy];rfl⟩
    ·rw[ex];cases j with
     | zero=>trivial
     | succ j=>exact⟨Nat.zero_le _,by simp⟩
    ·rw[ex];cases j with
     | zero=>exact Nat.zero_le _
     | succ j=>exact hB.one _
   ·obtain rfl:n=n':=by omega
    simp only[Prod.mk.injEq] at hx
    obtain⟨rfl,-⟩:=hx
    let cel:Nat->List Value:=fun i=>(W.cells? 0 (a.add (i*E.sz e)) (E.sz e)).getD []
    have each:∀ (i:Nat) y,elems[i]?=some y->∃ cs',W.cells? 0 (a.add (i*E.sz e)) (E.sz e)=some cs'/\DataW.trod enc E.P W 0 (fun _=>true) true n e cs'=some y:=by
     intro i y hy'
     have hi:i<len:=by rw[<-hel];exact (List.getElem?_eq_some_iff.1 hy').1
     have:=hget i hi
     rw[hy',hcs,Option.bind_eq_some_iff] at this
     exact this
    have each2:∀ (i:Nat) d,(elems.map (·.1))[i]?=some d->∃ x:U e,Opened E W B e (cel (0+i)) d x:=by
     intro i d hd
     rw[List.getElem?_map] at hd
     cases hy':elems[i]? with
     | none=>rw[hy'] at hd;simp at hd
     | some y=>
      rw[hy'] at hd
      simp only[Option.map_some,Option.some.injEq] at hd
      subst hd
      obtain⟨cs',q1,q2⟩:=each i y hy'
      have:cel (0+i)=cs':=by simp only[cel,Nat.zero_add,q1,Option.getD_some]
      rw[this]
      exact open_any ok hD hB n e heD cs' y.1 y.2 q2
    obtain⟨xs,hxl,hxs⟩:=open_list cel _ 0 each2
    rw[List.length_map,hel] at hxl
    obtain⟨x,ex⟩:=hA xs
    refine⟨x,?_,fun j=>?_,fun j=>?_,by rw[ex,hy];rfl⟩
    ·rw[ex]
     cases xs with
     | nil=>simp only[List.length_nil] at hxl;subst hxl;exact .roE .nil
     | cons x0 xs0=>
      have hpos:0<len:=by rw[<-hxl];simp
      have hy0:∃ y,elems[0]?=some y:=by
       cases hh:elems[0]? with
       | none=>rw[List.getElem?_eq_none_iff] at hh;omega
       | some y=>exact⟨y,rfl⟩
      obtain⟨y0,hy0⟩:=hy0
      obtain⟨cs0,q1,q2⟩:=each 0 y0 hy0
      obtain⟨-,q3,q4⟩:=World.cells?_some q1
      have q5:=q4 0 hsz
      have:∃ v,cs0[0]?=some v:=⟨cs0[0]'(by omega),by simp⟩
      obtain⟨v0,hv0⟩:=this
      rw[hv0,Nat.zero_mul,show (a.add 0).add 0=a by simp[Addr.add]] at q5
      obtain⟨hsp,hblk⟩:=spot_of q5
      obtain⟨ab,ao,as⟩:=a
      simp only at hsp hblk
      subst hsp
      have rc:=rc_list (E:=E) (W:=W) cel (x0::xs0) 0 fun i y hy'=>by
       obtain⟨d,-,hd⟩:=hxs i y hy'
       exact hd.rc
      rw[<-hxl]
      refine .ro rc ?_ ⟨rfl,hblk⟩ (by rw[hxl];exact hlc) .nil
      intro j v hj
      have hlen:∀ i,i<len->(cel (0+i)).length=E.sz e/\∀ q,q<E.sz e->W.cell? ⟨ab,ao+(i*E.sz e+q),.none⟩=(cel (0+i))[q]?:=by
       intro i hi
       have:∃ y,elems[i]?=some y:=by
        cases hh:elems[i]? with
        | none=>rw[List.getElem?_eq_none_iff] at hh;omega
        | some y=>exact⟨y,rfl⟩
       obtain⟨y,hy'⟩:=this
       obtain⟨cs',r1,r2⟩:=each i y hy'
       have hc:cel (0+i)=cs':=by simp only[cel,Nat.zero_add,r1,Option.getD_some]
       rw[hc]
       have hadd:(Addr.add ⟨ab,ao,.none⟩ (i*E.sz e))=⟨ab,ao+i*E.sz e,.none⟩:=by
        unfold Addr.add
        split
        ·rename_i e0;rw[e0];rfl
        ·rfl
       rw[hadd] at r1
       obtain⟨s1,s2⟩:=cells_at r1 hsz rfl
       refine⟨s1,fun q hq=>?_⟩
       rw[<-s2 q hq,Nat.add_assoc]
      have key:∀ m,m<=len->((List.range m).flatMap fun i=>cel (0+i)).length=m*E.sz e/\∀ j v,((List.range m).flatMap fun i=>cel (0+i))[j]?=some v->W.cell? ⟨ab,ao+j,.none⟩=some v:=by
       intro m
       induction m with
       | zero=>intro _;simp
       | succ m ih=>
        intro hm
        obtain⟨i1,i2⟩:=ih (by omega)
        obtain⟨l1,l2⟩:=hlen m (by omega)
        rw[List.range_succ,List.flatMap_append,List.flatMap_singleton]
        refine⟨by rw[List.length_append,i1,l1,Nat.succ_mul],fun j v hj=>?_⟩
        by_cases hjm:j<m*E.sz e
        ·rw[List.getElem?_append_left (by omega)] at hj
         exact i2 j v hj
        ·rw[List.getElem?_append_right (by omega),i1] at hj
         have hq:=(List.getElem?_eq_some_iff.1 hj).1
         rw[l1] at hq
         have:=l2 (j-m*E.sz e) hq
         rw[hj] at this
         rw[<-this]
         congr 2
         omega
      have:=(key (x0::xs0).length (by omega)).2 j v hj
      exact this
    ·rw[ex]
     cases j with
     | zero=>trivial
     | succ j=>
      refine⟨by omega,fun y hy'=>?_⟩
      obtain⟨i,hi⟩:=List.getElem?_of_mem hy'
      obtain⟨d,-,hd⟩:=hxs i y hi
      exact hd.wf j
    ·rw[ex]
     cases j with
     | zero=>exact Nat.zero_le _
     | succ j=>
      have h1:=hB.sl (elems.map (·.1)) (rest.map (·.1))
      have h2:=sum_le (fun x=>ms E j (E.enc e x)) B xs (elems.map (·.1)) (by rw[hxl,List.length_map,hel]) fun i y d hy' hd=>by
       obtain⟨d',h1,h2⟩:=hxs i y hy'
       rw[hd] at h1
       obtain rfl:=Option.some.inj h1
       exact h2.ms j
      simp only[ms]
      omega
  | arr m e=>
   rw[hy] at hT hu
   simp only at hT
   obtain⟨heD,hsz,hA⟩:=hT
   have hey:E.ty e≠.no:=by
    intro hn
    have:=hD e heD
    unfold DataT at this
    rw[hn] at this
    exact this
   have hcs:=sz_eq ok hey
   have hct:=sz_eq ok (t:=t) (by rw[hy];simp)
   obtain⟨ys,n',hn',hx,hlen,hyl,hget⟩:=DataW.trod_array hu h
   obtain rfl:n=n':=by omega
   simp only[Prod.mk.injEq] at hx
   obtain⟨rfl,-⟩:=hx
   have each2:∀ (i:Nat) d,(ys.map (·.1))[i]?=some d->∃ x:U e,Opened E W B e ((cs.drop ((0+i)*E.sz e)).take (E.sz e)) d x:=by
    intro i d hd
    rw[List.getElem?_map] at hd
    cases hy':ys[i]? with
    | none=>rw[hy'] at hd;simp at hd
    | some y=>
     rw[hy'] at hd
     simp only[Option.map_some,Option.some.injEq] at hd
     subst hd
     have hi:i<m:=by rw[<-hyl];exact (List.getElem?_eq_some_iff.1 hy').1
     have:=hget i hi
     rw[hy',hcs] at this
     rw[Nat.zero_add]
     exact open_any ok hD hB n e heD _ y.1 y.2 this
   obtain⟨xs,hxl,hxs⟩:=open_list (fun i=>(cs.drop (i*E.sz e)).take (E.sz e)) _ 0 each2
   rw[List.length_map,hyl] at hxl
   obtain⟨x,ex⟩:=hA xs hxl
   refine⟨x,?_,fun j=>?_,fun j=>?_,by rw[ex,hy];rfl⟩
   ·rw[ex]
    have rc:=rc_list (E:=E) (W:=W) (fun i=>(cs.drop (i*E.sz e)).take (E.sz e)) xs 0 fun i y hy'=>by
     obtain⟨d,-,hd⟩:=hxs i y hy'
     exact hd.rc
    simp only[Nat.zero_add] at rc
    rw[hxl,cut_flat cs (E.sz e) m (by rw[hlen,hct,hsz])] at rc
    simpa using RC.arr hxl rc .nil
   ·rw[ex]
    cases j with
    | zero=>trivial
    | succ j=>
     refine⟨hxl,fun y hy'=>?_⟩
     obtain⟨i,hi⟩:=List.getElem?_of_mem hy'
     obtain⟨d,-,hd⟩:=hxs i y hi
     exact hd.wf j
   ·rw[ex]
    cases j with
    | zero=>exact Nat.zero_le _
    | succ j=>
     have h1:=hB.agg (ys.map (·.1))
     have h2:=sum_le (fun x=>ms E j (E.enc e x)) B xs (ys.map (·.1)) (by rw[hxl,List.length_map,hyl]) fun i y d hy' hd=>by
      obtain⟨d',h1,h2⟩:=hxs i y hy'
      rw[hd] at h1
      obtain rfl:=Option.some.inj h1
      exact h2.ms j
     simp only[ms]
     omega
  | st fs=>
   rw[hy] at hT hu
   simp only at hT
   obtain⟨hfD,hoff,hA⟩:=hT
   obtain⟨fields,hu,hfs⟩:=hu
   have hct:=sz_eq ok (t:=t) (by rw[hy];simp)
   obtain⟨ys,n',hn',hx,hlen,hyl,hget⟩:=DataW.trod_struct hu h
   obtain rfl:n=n':=by omega
   simp only[Prod.mk.injEq] at hx
   obtain⟨rfl,-⟩:=hx
   have hfl:fs.length=fields.size:=by rw[hfs];simp
   obtain⟨-,l,q1,q2,q3,q4⟩:=open_fields (E:=E) (W:=W) (B:=B) ok (cs:=cs) fs (ys.map (·.1)) 0 (E.sz t) hoff (by rw[hlen,hct];exact Nat.le_refl _) (by rw[List.length_map,hyl,hfl]) fun i f d hf hd=>by
    rw[List.getElem?_map] at hd
    cases hy':ys[i]? with
    | none=>rw[hy'] at hd;simp at hd
    | some y=>
     rw[hy'] at hd
     simp only[Option.map_some,Option.some.injEq] at hd
     subst hd
     rw[hfs,List.getElem?_map] at hf
     cases hf':fields.toList[i]? with
     | none=>rw[hf'] at hf;simp at hf
     | some fl=>
      rw[hf'] at hf
      simp only[Option.map_some,Option.some.injEq] at hf
      subst hf
      have hfm:fl.type∈D:=hfD (fl.type,fl.offset) (by rw[hfs];exact List.mem_map.2 ⟨fl,List.mem_of_getElem? hf',rfl⟩)
      have hey:E.ty fl.type≠.no:=by
       intro hn
       have:=hD _ hfm
       unfold DataT at this
       rw[hn] at this
       exact this
      have:=hget i fl (by simpa using hf')
      rw[hy',sz_eq ok hey] at this
      exact open_any ok hD hB n fl.type hfm _ y.1 y.2 this
   obtain⟨x,ex⟩:=hA l q1
   refine⟨x,?_,fun j=>?_,fun j=>?_,by rw[ex,hy];rfl⟩
   ·rw[ex]
    rw[List.drop_zero,Nat.sub_zero,List.take_of_length_le (by rw[hlen,hct];exact Nat.le_refl _)] at q2
    simpa using RC.agg q2 .nil
   ·rw[ex];cases j with
    | zero=>trivial
    | succ j=>exact q3 j
   ·rw[ex];cases j with
    | zero=>exact Nat.zero_le _
    | succ j=>
     have:=q4 j
     have:=hB.agg (ys.map (·.1))
     simp only[ms]
     omega
end
end Go.V

set_option linter.unusedVariables false
set_option linter.unusedSimpArgs false
namespace Go.V
open Go.ChangeShapes Go.WideShapes Go.ChangeAt Go.RowKit
variable {U:Nat->Type}
def EncL(E:Env U):List TypeId->List (A U)->Prop
 | [],[]=>True
 | t::ts,a::l=>(∃ x:U t,E.enc t x=a)/\EncL E ts l
 | _,_=>False
section
variable {E:Env U} {D:List Nat} {H:Type} {enc:TypeId×Value->H} {W:World} {B:DataW H->Nat}
theorem agg_of(ok:EnvOk2 E)(hD:∀ e∈D,DataT E D e){t:Nat}(ht:t∈D){r:Reach}{b0:Nat}{v:Value}(hv:Value.okWide E.P W r b0 t v):isAggV v=rowTy (E.ty t):=by
 have hT:=hD t ht
 have hu:=ok.under t
 unfold DataT at hT
 cases hy:E.ty t with
 | no=>rw[hy] at hT;exact hT.elim
 | ifc=>rw[hy] at hT;exact hT.elim
 | ptr e=>rw[hy] at hT;exact hT.elim
 | func=>rw[hy] at hT;exact hT.elim
 | int k=>rw[hy] at hu;obtain⟨n,rfl⟩:=okWide_int hu hv;rfl
 | bool=>rw[hy] at hu;obtain⟨n,rfl⟩:=okWide_bool hu hv;rfl
 | str=>rw[hy] at hu;obtain⟨n,rfl⟩:=okWide_string hu hv;rfl
 | sl e=>rw[hy] at hu;obtain⟨_,_,_,rfl⟩:=okWide_slice hu hv;rfl
 | arr n e=>
  rw[hy] at hu
  simp only[tyOk] at hu
  simp only[Value.okWide,hu] at hv
  obtain⟨cs,rfl,-⟩:=hv
  rfl
 | st fs=>
  rw[hy] at hu
  obtain⟨fields,hu,-⟩:=hu
  obtain⟨cs,rfl,-⟩:=okWide_struct hu hv
  rfl
theorem open_args(ok:EnvOk2 E)(hD:∀ e∈D,DataT E D e)(hB:Bulk B){r:Reach}{b0:Nat}:∀ (ts:List TypeId) (vs:List Value) (ds:List (DataW H)) (ps:List MemPlace),(∀ t∈ts,t∈D) →
  DataW.TrodAll enc E.P W 0 (fun _=>true) true ts vs ds ps->(∀ (j:Nat) t v,ts[j]?=some t->vs[j]?=some v->Value.okWide E.P W r b0 t v) →
  ∃ as,EncL E ts as/\RVs E W (Below W) noNm as vs/\(∀ m,∀ a∈as,wf E m a)/\∀ m,(as.map fun a=>ms E m a).sum<=(ds.map B).sum
 | [],vs,ds,ps,_,h,_=>by
  obtain⟨rfl,rfl,-⟩:=trodAll_nil h
  exact⟨[],trivial,trivial,by simp,by simp⟩
 | t::ts,vs,ds,ps,ht,h,hv=>by
  obtain⟨v,vs,d,ds,p,q,rfl,rfl,rfl,⟨n,h0⟩,hr⟩:=trodAll_cons h
  obtain⟨as,h1,h2,h3,h4⟩:=open_args ok hD hB ts vs ds q (fun t h=>ht t (by simp[h])) hr fun j t v h1 h2=>hv (j+1) t v (by simpa using h1) (by simpa using h2)
  obtain⟨x,hx⟩:=open_any ok hD hB n t (ht t (by simp)) _ d p h0
  refine⟨E.enc t x::as,⟨⟨x,rfl⟩,h1⟩,⟨.inr ⟨hx.rc,?_⟩,h2⟩,?_,?_⟩
  ·rw[hx.ag,agg_of ok hD (ht t (by simp)) (hv 0 t v rfl rfl)]
  ·intro m a ha
   rcases List.mem_cons.1 ha with rfl|ha
   ·exact hx.wf m
   ·exact h3 m a ha
  ·intro m
   have:=hx.ms m
   have:=h4 m
   simp only[List.map_cons,List.sum_cons]
   omega
theorem trods_stay{P:Program}(hl:laidOutB P=true){W W':World}{sp:Nat->Bool}:∀ (ts:List TypeId) (vs:List Value) (ds:List (DataW H)) (ps:List MemPlace),(∀ t∈ts,P.readableRec t=true/\t<P.types.size) →
  DataW.TrodAll enc P W 0 (fun _=>true) true ts vs ds ps->(∀ p∈ps,W.sameAt W' p)->(∀ p∈ps,sp p.block=true)->DataW.TrodAll enc P W' 0 sp true ts vs ds ps
 | [],vs,ds,ps,_,h,_,_=>by
  obtain⟨rfl,rfl,rfl⟩:=trodAll_nil h
  exact trodAll_mk0
 | t::ts,vs,ds,ps,ht,h,hs,hsp=>by
  obtain⟨v,vs,d,ds,p,q,rfl,rfl,rfl,h0,hr⟩:=trodAll_cons h
  exact trodAll_cons_mk (WideElems.Trod_stays hl (ht t (by simp)).1 (ht t (by simp)).2 h0 (fun x hx=>hs x (by simp[hx])) fun x hx=>hsp x (by simp[hx]))
   (trods_stay hl ts vs ds q (fun t h=>ht t (by simp[h])) hr (fun x hx=>hs x (by simp[hx])) fun x hx=>hsp x (by simp[hx]))
theorem below_of{W W':World}(h:Fr (fun _=>False) W W'):RowKit.Below W.heap.size W W':=
 ⟨h.os,h.tape,h.out,h.size,fun k hk=>h.same k hk (fun h=>h)⟩
theorem law_contract(ok:EnvOk2 E)(hD:∀ e∈D,DataT E D e)(hB:Bulk B){T:Nat->Tab U}(hT:∀ k,TSound E (T k)){f:FuncId}(hnp:Nat.blt f 1000000=true/\memN f E.procs=false){fn:Func}
  {Q:Nat->Prop} (hlaw:∀ as N,EncL E fn.params.toList as->(∀ m,∀ a∈as,wf E m a)->(∀ m,(as.map fun a=>ms E m a).sum<=N)->Q N->∃ k,T k f as [] fun r _=>r=.bool true)
  {s:ChangeSpec} (hvars:s.vars=[]) (hspec:∀ ds:List (DataW H),ds.length=fn.params.size->s.fn H ds={ results:=[.lit (.bool true)],args:=ds })
  (hl:laidOutB E.P=true) (hpar:∀ t∈fn.params.toList,t∈D) (hread:∀ t∈fn.params.toList,E.P.readableRec t=true/\t<E.P.types.size) {tb:TypeId} (hres:fn.resultTypes = #[tb]) (htb:E.P.underlying tb=some .bool)
  {args:Array Value} {ds gs:List (DataW H)} {before:List MemPlace} {b0:Nat}
  (hglo:∀ g,GloAt E W (Below W) g) (hval:∀ (j:Nat) t v,fn.params[j]?=some t->args[j]?=some v->Value.okWide E.P W .any b0 t v)
  (hW:DataW.Whole enc E.P fn.params.toList s.vars false W args.toList ds gs before) (hQ:Q (((ds++gs).map B).sum)) :
  Calls E.P f args W fun e W'=>∃ v,e=.returned v/\s.post enc E.P fn false true false false W args v W':=by
 have hW':=hW
 obtain⟨p,q,hA,hV,rfl,hfz,hnd⟩:=hW
 rw[hvars] at hV
 obtain⟨rfl,rfl⟩:=trodVars_none hV
 rw[List.append_nil] at hQ
 rw[List.append_nil] at hW'
 have hlen:=(trodAll_length hA).2
 obtain⟨as,h1,h2,h3,h4⟩:=open_args ok hD hB (r:=.any) (b0:=b0) fn.params.toList args.toList ds p hpar hA fun j t v h1 h2=>hval j t v (by simpa using h1) (by simpa using h2)
 obtain⟨k,hk⟩:=hlaw as _ h1 h3 h4 hQ
 obtain⟨-,hS⟩:=((hT k f as [] _ hk).1 hnp.1).1 hnp.2 rfl
 refine (hS W (Below W) args h2 (fun B ⟨g,hg⟩=>hg.2) ⟨fun B h=>h,fun c x B h=>(by cases h.1),hglo,fun c x B h=>(by cases h.1),fun c x c' x' B h=>(by cases h.1)⟩).mono ?_
 rintro e W' ⟨r,v,bs,St',rfl,hR⟩
 have hr:=hR.k
 subst hr
 have hv:v=.bool true:=by
  have:=hR.val
  simp only[RTb] at this
  obtain⟨q1,q2⟩:=this
  cases v with
  | agg cs=>simp[isAggV,isAgg] at q2
  | bool b=>
   simp only[Value.cells] at q1
   cases q1;rfl
  | _=>simp only[Value.cells] at q1;cases q1
 subst hv
 have hb:=below_of (hR.fr.mono fun B _ ⟨c,x,h⟩=>by cases h.1)
 have hfn:=hspec ds (by rw[hlen];simp)
 have hlt:∀ x∈p,x.block<W.heap.size:=fun x hx=>hW'.lt x hx
 have hargs:∀ sp:Nat->Bool,(∀ x∈p,sp x.block=true)->DataW.TrodAll enc E.P W' 0 sp true fn.params.toList args.toList ds p:=fun sp hsp=>
  trods_stay hl _ _ _ _ hread hA (fun x hx=>hb.same (hlt x hx)) hsp
 have hres':∀ (b:Nat) (sp:Nat->Bool) (hd:Bool),DataW.TrodAll enc E.P W' b sp hd fn.resultTypes.toList ((Value.bool true).resultList fn.resultTypes.size) [.lit (.bool true)] []:=fun b sp hd=>by
  rw[hres]
  simpa[Value.resultList] using (trodAll_cons_mk (shut_bool htb true) trodAll_mk0)
 refine⟨_,rfl,ds,[],p,[],p,[],hW',?_,?_,?_,World.keptBut_mono (fun x hx=>⟨hx,.inr (.inl hx)⟩) (hb.frame (· ∈ p)),fun h=>?_⟩
 ·rw[List.append_nil,hfn];exact hres' _ _ _
 ·rw[List.append_nil,hfn];exact hargs _ fun x hx=>by simpa using hlt x hx
 ·rw[hvars,List.append_nil,hfn];rfl
 ·cases h
end
end Go.V

set_option linter.unusedVariables false
set_option linter.unusedSimpArgs false
namespace Go.V
variable {U:Nat->Type}
theorem laid_ints{H:Type}{P:Program}{W:World}{enc:TypeId×Value->H}{base:Nat}{spare:Nat->Bool}{held:Bool}{fuel t e n:Nat}{k:IntKind}{cs:List Value}{ns:List Int}{q:List MemPlace}
  (ht:P.underlying t=some (.array n e)) (he:P.underlying e=some (.int k)) (hc:P.cellsOf e=1) (hct:P.cellsOf t=n) (hn:ns.length=n) (h:DataW.trod enc P W base spare held fuel t cs=some (.agg (ns.map fun x=>.lit (.int k x)),q)):cs=ns.map (.int k):=by
 obtain⟨xs,m,rfl,hx,hlen,hn3,hel⟩:=DataW.trod_array ht h
 simp only[Prod.mk.injEq,DataW.agg.injEq] at hx
 refine List.ext_getElem? fun i=>?_
 by_cases hi:i<n
 ·have h1:=hel i hi
  rw[hc,Nat.mul_one] at h1
  have hxi:xs[i]?=some xs[i]:=List.getElem?_eq_getElem (by omega)
  rw[hxi] at h1
  obtain⟨x,e1,e2,-⟩:=DataW.trod_int he h1
  have h2:=congrArg (·[i]?) hx.1
  simp only[List.getElem?_map,hxi,Option.map_some] at h2
  rw[List.getElem?_eq_getElem (by omega:i<ns.length)] at h2
  simp only[Option.map_some,Option.some.injEq] at h2
  rw[e2] at h2
  have h3:x=ns[i]:=by
   have:=h2.symm
   simp only[DataW.lit.injEq,Lit.int.injEq,true_and] at this
   exact this
  have h4:=congrArg (·[0]?) e1
  simp only[List.getElem?_take,List.getElem?_drop,Nat.add_zero] at h4
  rw[List.getElem?_map,List.getElem?_eq_getElem (by omega:i<ns.length)]
  simpa[h3] using h4
 ·rw[List.getElem?_eq_none (by omega),List.getElem?_eq_none (by simp;omega)]
theorem glob_arr{E:Env U}{W:World}{name:String}{g n c:Nat}{k:IntKind}{cs:Array Value}{ns:List Int}{x:U c}{e:Nat}{l:List (U e)}(hg:E.P.globalNamed name=some g)(hv:W.var? E.P name=some cs)(hcs:cs.toList=ns.map (.int k))(hpos:0<ns.length)
  (hx:E.enc c x=.arr e ns.length l) (hl:l.map (E.enc e)=ns.map (.int k)):RT E W (Below W) noNm (.rp false c [x] 0 []) (.pointer (some ⟨g,0,.none⟩)):=by
 have hat:W.rangeAt g 0 (ns.map (Value.int k)):=by
  intro j v hj
  rw[Nat.zero_add,World.var?_cell hg hv j,<-Array.getElem?_toList,hcs]
  exact hj
 have hlt:g<W.heap.size:=by
  have h0:=hat 0 _ (List.getElem?_eq_getElem (by simpa using hpos))
  rcases Nat.lt_or_ge g W.heap.size with h|h
  ·exact h
  ·simp[World.cell?,Array.getElem?_eq_none h] at h0
 have rc:RC E W (Below W) noNm (l.map (E.enc e)) (ns.map (Value.int k)) []:=by
  rw[hl]
  clear hl hx hpos hcs hat
  induction ns with
  | nil=>exact .nil
  | cons n ns ih=>exact .int ih
 have hlen:l.length=ns.length:=by simpa using congrArg List.length hl
 have rc2:RC E W (Below W) noNm ([x].map (E.enc c)) (ns.map (Value.int k)) []:=by
  simp only[List.map_cons,List.map_nil,hx]
  simpa using RC.arr hlen rc .nil
 have:RC E W (Below W) noNm [.rp false c [x] 0 []] [.pointer (some ⟨g,0+(0*E.sz c+po []),.none⟩)] []:=.rp rc2 hat ⟨rfl,hlt⟩ (by simp) trivial .nil
 exact RT.of_rv (.mk1 (by simpa[po] using this) rfl rfl)
theorem laid_iv{H:Type}{P:Program}{W:World}{enc:TypeId×Value->H}{base:Nat}{spare:Nat->Bool}{fuel t:Nat}{nm:String}{d:DataW H}{cs:List Value}{q:List MemPlace}
  (ht:∃ ms,P.underlying t=some (.interface ms)) (h:DataW.trod enc P W base spare false fuel t cs=some (.iface nm d,q)):∃ u v,cs=[.iface u v]:=by
 obtain⟨ms,ht⟩:=ht
 cases fuel with
 | zero=>simp[DataW.trod] at h
 | succ n=>
  unfold DataW.trod at h
  rw[ht] at h
  split at h<;>simp_all
theorem glob_iv{E:Env U}{W:World}{name:String}{g c:Nat}{cs:Array Value}{x:U c}(hg:E.P.globalNamed name=some g)(hv:W.var? E.P name=some cs)(hcs:∃ u v,cs.toList=[.iface u v])(hx:E.enc c x=.iv .ref):RT E W (Below W) noNm (.rp false c [x] 0 []) (.pointer (some ⟨g,0,.none⟩)):=by
 obtain⟨u,v,hcs⟩:=hcs
 have hat:W.rangeAt g 0 [.iface u v]:=by
  intro j v hj
  rw[Nat.zero_add,World.var?_cell hg hv j,<-Array.getElem?_toList,hcs]
  exact hj
 have hlt:g<W.heap.size:=by
  have h0:=hat 0 _ rfl
  rcases Nat.lt_or_ge g W.heap.size with h|h
  ·exact h
  ·simp[World.cell?,Array.getElem?_eq_none h] at h0
 have rc2:RC E W (Below W) noNm ([x].map (E.enc c)) [.iface u v] []:=by
  simp only[List.map_cons,List.map_nil,hx]
  exact .iv ⟨u,v,rfl⟩ .nil
 have:RC E W (Below W) noNm [.rp false c [x] 0 []] [.pointer (some ⟨g,0+(0*E.sz c+po []),.none⟩)] []:=.rp rc2 hat ⟨rfl,hlt⟩ (by simp) trivial .nil
 exact RT.of_rv (.mk1 (by simpa[po] using this) rfl rfl)
theorem gloAt_of{E:Env U}{W:World}{name:String}{g:Nat}{cs:Array Value}(hg:E.P.globalNamed name=some g)(hv:W.var? E.P name=some cs)(h:RT E W (Below W) noNm (E.glob g) (.pointer (some ⟨g,0,.none⟩)))(hn:∀ n,E.whole g=some n->cs.size=n):GloAt E W (Below W) g:=by
 refine⟨h,fun n e=>?_⟩
 unfold World.var? at hv
 rw[hg,Option.bind_some] at hv
 cases hh:W.heap[g]? with
 | none=>rw[hh] at hv;cases hv
 | some o=>
  rw[hh] at hv
  cases o with
  | cells c t m=>
   simp only[Option.some.injEq] at hv
   subst hv
   exact⟨⟨rfl,(Array.getElem?_eq_some_iff.1 hh).1⟩,c,t,m,rfl,hn n e⟩
  | _=>cases hv
end Go.V

set_option linter.unusedVariables false
set_option linter.unusedSimpArgs false
namespace Go.V
theorem Hold_eq(p:Prop):Hold p=p:=propext ⟨Hold.out,Hold.mk⟩
theorem wrap64{n:Int}(h : -9223372036854775808<=n/\n<=9223372036854775807):IntKind.i64.wrap n=n:=by
 simp[IntKind.wrap,IntKind.signed,IntKind.bits]
 split<;>omega
theorem wrap8{n:Int}(h:0<=n/\n<=255):IntKind.u8.wrap n=n:=by
 simp[IntKind.wrap,IntKind.signed,IntKind.bits]
 omega
theorem cond_dec{p:Prop}[Decidable p]{A B:Prop}(h1:p->A)(h2:¬p->B):cond (decide p) A B:=by
 by_cases h:p
 ·simp[h,h1 h]
 ·simp[h,h2 h]
theorem cond_ndec{p:Prop}[Decidable p]{A B:Prop}(h1:¬p->A)(h2:p->B):cond (!decide p) A B:=by
 by_cases h:p
 ·simp[h,h2 h]
 ·simp[h,h1 h]
theorem cond_b{b:Bool}{A B:Prop}(h1:b=true->A)(h2:b=false->B):cond b A B:=by
 cases b
 ·exact h2 rfl
 ·exact h1 rfl
theorem cond_nb{b:Bool}{A B:Prop}(h1:b=false->A)(h2:b=true->B):cond (!b) A B:=by
 cases b
 ·exact h1 rfl
 ·exact h2 rfl
theorem drop_cons{α:Type}{l:List α}{j:Nat}(h:j<l.length):l.drop j=l[j]::l.drop (j+1):=List.drop_eq_getElem_cons h
theorem getD_at{α:Type}{l:List α}{j:Nat}{d:α}(h:j<l.length):l.getD j d=l[j]:=by simp[List.getD,h]
def B8(l:List Int):Prop:=∀ x∈l,0<=x/\x<=255
def Dig(d:List Int):Prop:=d.length=32/\B8 d
abbrev z32:List Int:=List.replicate 32 0
theorem B8.nil:B8 []:=fun _ h=>nomatch h
theorem B8.cons{x:Int}{l:List Int}(h:0<=x/\x<=255)(hl:B8 l):B8 (x::l):=List.forall_mem_cons.2 ⟨h,hl⟩
theorem B8.append{l m:List Int}(h:B8 l)(h':B8 m):B8 (l++m):=by
 intro x hx
 rcases List.mem_append.1 hx with hx|hx
 ·exact h x hx
 ·exact h' x hx
theorem B8.take{l:List Int}(h:B8 l)(n:Nat):B8 (l.take n):=fun x hx=>h x (List.mem_of_mem_take hx)
theorem B8.drop{l:List Int}(h:B8 l)(n:Nat):B8 (l.drop n):=fun x hx=>h x (List.mem_of_mem_drop hx)
theorem B8.flatten{l:List (List Int)}(h:∀ d∈l,B8 d):B8 l.flatten:=by
 intro x hx
 obtain⟨d,hd,hx⟩:=List.mem_flatten.1 hx
 exact h d hd x hx
theorem Dig.zero:Dig z32:=⟨by simp,by intro x hx;have:=List.eq_of_mem_replicate hx;omega⟩
end Go.V

set_option linter.unusedVariables false
namespace Go.V
inductive Tk where
 | none|int (k:IntKind)|bool|str|nilp|nilf|dead|gh|iv|box
 | nils (c:Nat)|own (n:Nat)|yld (n:Nat)|agg (n:Nat)|tup (n:Nat)|clo (f n:Nat)
 | arr (c n:Nat)|ro (b:Bool) (c:Nat)|clip (b:Bool) (c:Nat)|usl (c:Nat)|lst (c:Nat)|fz (c:Nat)
 | lp (f id:Nat) (live:List Nat) (n st:Nat)
 | ptr (n:Nat) (p:List Step)|pel (n e:Nat)|tr (c:Nat) (p:List Step)|sub (n c:Nat)|bsl (n:Nat) (p:List Step) (c N:Nat)
abbrev It(U:Nat->Type):=A U⊕AObj U
section
variable (U:Nat->Type)
def Tk.fn(G:Type):Tk->Type
 | .int _|.gh=>Int->G
 | .bool=>Bool->G
 | .str=>ByteArray->G
 | .iv=>IV->G
 | .arr c _|.ro _ c|.clip _ c|.usl c|.lst c|.fz c=>List (U c)->G
 | .pel _ _=>Nat->G
 | .tr c _=>KT (U c)->G
 | .sub _ _|.bsl _ _ _ _=>Nat->Nat->G
 | _=>G
def Tk.ty:Tk->Type
 | .int _|.gh=>Int
 | .bool=>Bool
 | .str=>ByteArray
 | .iv=>IV
 | .arr c _|.ro _ c|.clip _ c|.usl c|.lst c|.fz c=>List (U c)
 | .pel _ _=>Nat
 | .tr c _=>KT (U c)
 | .sub _ _|.bsl _ _ _ _=>Nat×Nat
 | _=>Unit
def Cur(G:Type):List Tk->Type
 | []=>G
 | t::S=>t.fn U (Cur G S)
def Tp:List Tk->Type
 | []=>Unit
 | t::S=>t.ty U×Tp S
end
variable {U:Nat->Type} {G:Type}
def Tk.call:(t:Tk)->t.fn U G->t.ty U->G
 | .int _,F,x|.gh,F,x|.iv,F,x|.bool,F,x|.str,F,x|.arr _ _,F,x|.ro _ _,F,x|.clip _ _,F,x|.usl _,F,x|.lst _,F,x|.fz _,F,x|.pel _ _,F,x|.tr _ _,F,x=>F x
 | .sub _ _,F,x|.bsl _ _ _ _,F,x=>F x.1 x.2
 | .none,F,_|.nilp,F,_|.nilf,F,_|.dead,F,_|.box,F,_|.nils _,F,_|.own _,F,_|.yld _,F,_|.agg _,F,_|.tup _,F,_|.clo _ _,F,_|.lp _ _ _ _ _,F,_|.ptr _ _,F,_=>F
def appl:(S:List Tk)->Cur U G S->Tp U S->G
 | [],F,_=>F
 | t::S,F,x=>appl S (t.call F x.1) x.2
def lefts:Nat->List (It U)->List (A U)
 | 0,_=>[]
 | n+1,.inl a::X=>a::lefts n X
 | n+1,_::X=>lefts n X
 | n+1,[]=>[]
def skip:Nat->List (It U)->List (It U)
 | 0,X=>X
 | n+1,[]=>[]
 | n+1,_::X=>skip n X
theorem lefts_app:∀ (l:List (A U)) (X:List (It U)),lefts l.length (l.map .inl++X)=l/\skip l.length (l.map .inl++X)=X
 | [],X=>⟨rfl,rfl⟩
 | a::l,X=>⟨congrArg (a::·) (lefts_app l X).1,(lefts_app l X).2⟩
def box1:List (It U)->List (It U)
 | .inl a::X=>.inr (.box a)::X
 | X=>X
def Tk.mk:(t:Tk)->t.ty U->List (It U)->List (It U)
 | .none,_,X=>.inl .none::X
 | .int k,x,X=>.inl (.int k x)::X
 | .bool,x,X=>.inl (.bool x)::X
 | .str,x,X=>.inl (.str x)::X
 | .nilp,_,X=>.inl .nilp::X
 | .nilf,_,X=>.inl .nilf::X
 | .dead,_,X=>.inr .dead::X
 | .gh,x,X=>.inl (.gh x)::X
 | .iv,x,X=>.inl (.iv x)::X
 | .box,_,X=>box1 X
 | .nils c,_,X=>.inl (.nils c)::X
 | .own n,_,X=>.inl (.own n)::X
 | .yld n,_,X=>.inl (.yld n)::X
 | .agg n,_,X=>.inl (.agg (lefts n X))::skip n X
 | .tup n,_,X=>.inl (.tup (lefts n X))::skip n X
 | .clo f n,_,X=>.inl (.clo f (lefts n X))::skip n X
 | .arr c n,x,X=>.inl (.arr c n x)::X
 | .ro b c,x,X=>.inl (.ro b c x)::X
 | .clip b c,x,X=>.inl (.clip b c x)::X
 | .usl c,x,X=>.inl (.usl c x)::X
 | .lst c,x,X=>.inr (.lst c x)::X
 | .fz c,x,X=>.inr (.fz c x)::X
 | .lp f id live n st,_,X=>.inr (.lp f id live (lefts n X) st)::skip n X
 | .ptr n p,_,X=>.inl (.ptr n p)::X
 | .pel n e,x,X=>.inl (.ptr n [.elt x e])::X
 | .tr c p,x,X=>.inl (.tr c x p)::X
 | .sub n c,x,X=>.inl (.sub n c x.1 x.2)::X
 | .bsl n p c N,x,X=>.inl (.bsl n p c N x.1 x.2)::X
def put:(S:List Tk)->Tp U S->List (It U)
 | [],_=>[]
 | t::S,x=>t.mk x.1 (put S x.2)
def stepB:Step->Step->Bool
 | .fld a b,.fld c d=>Nat.beq a c&&Nat.beq b d
 | .idx a b e,.idx c d f=>Nat.beq a c&&(Nat.beq b d&&Nat.beq e f)
 | .elt a b,.elt c d=>Nat.beq a c&&Nat.beq b d
 | _,_=>false
theorem stepB_eq:∀ {a b:Step},stepB a b=true->a=b:=by
 intro a b h
 cases a<;>cases b<;>simp[stepB] at h<;>simp[h]
def wayB:List Step->List Step->Bool
 | [],[]=>true
 | a::l,b::m=>stepB a b&&wayB l m
 | _,_=>false
theorem wayB_eq:∀ {l m:List Step},wayB l m=true->l=m
 | [],[],_=>rfl
 | a::l,b::m,h=>by
  simp only[wayB,Bool.and_eq_true] at h
  rw[stepB_eq h.1,wayB_eq h.2]
 | [],_::_,h=>by simp[wayB] at h
 | _::_,[],h=>by simp[wayB] at h
def natsB:List Nat->List Nat->Bool
 | [],[]=>true
 | a::l,b::m=>Nat.beq a b&&natsB l m
 | _,_=>false
theorem natsB_eq:∀ {l m:List Nat},natsB l m=true->l=m
 | [],[],_=>rfl
 | a::l,b::m,h=>by
  simp only[natsB,Bool.and_eq_true] at h
  rw[Nat.eq_of_beq_eq_true h.1,natsB_eq h.2]
 | [],_::_,h=>by simp[natsB] at h
 | _::_,[],h=>by simp[natsB] at h
def boolB(a b:Bool):Bool:=cond a b (not b)
theorem boolB_eq{a b:Bool}(h:boolB a b=true):a=b:=by cases a<;>cases b<;>simp[boolB] at h<;>rfl
def Tk.st:(t:Tk)->t.fn U G->It U->List (It U)->Option (G×List (It U))
 | .none,F,.inl .none,X=>some (F,X)
 | .int k,F,.inl (.int k' n),X=>if k'=k then some (F n,X) else Option.none
 | .bool,F,.inl (.bool n),X=>some (F n,X)
 | .str,F,.inl (.str n),X=>some (F n,X)
 | .nilp,F,.inl .nilp,X=>some (F,X)
 | .nilf,F,.inl .nilf,X=>some (F,X)
 | .dead,F,.inr .dead,X=>some (F,X)
 | .gh,F,.inl (.gh n),X=>some (F n,X)
 | .iv,F,.inl (.iv n),X=>some (F n,X)
 | .box,F,.inr (.box a),X=>some (F,.inl a::X)
 | .nils c,F,.inl (.nils d),X=>cond (Nat.beq d c) (some (F,X)) Option.none
 | .own c,F,.inl (.own d),X=>cond (Nat.beq d c) (some (F,X)) Option.none
 | .yld c,F,.inl (.yld d),X=>cond (Nat.beq d c) (some (F,X)) Option.none
 | .agg n,F,.inl (.agg l),X=>cond (Nat.beq l.length n) (some (F,l.map .inl++X)) Option.none
 | .tup n,F,.inl (.tup l),X=>cond (Nat.beq l.length n) (some (F,l.map .inl++X)) Option.none
 | .clo f n,F,.inl (.clo g l),X=>cond (Nat.beq g f&&Nat.beq l.length n) (some (F,l.map .inl++X)) Option.none
 | .arr c n,F,.inl (.arr d m l),X=>cond (Nat.beq m n) (if h:d=c then some (F (h▸l),X) else Option.none) Option.none
 | .ro b c,F,.inl (.ro b' d l),X=>cond (boolB b' b) (if h:d=c then some (F (h▸l),X) else Option.none) Option.none
 | .clip b c,F,.inl (.clip b' d l),X=>cond (boolB b' b) (if h:d=c then some (F (h▸l),X) else Option.none) Option.none
 | .usl c,F,.inl (.usl d l),X=>if h:d=c then some (F (h▸l),X) else Option.none
 | .lst c,F,.inr (.lst d l),X=>if h:d=c then some (F (h▸l),X) else Option.none
 | .fz c,F,.inr (.fz d l),X=>if h:d=c then some (F (h▸l),X) else Option.none
 | .lp f id live n s,F,.inr (.lp f' id' live' l s'),X=>cond (Nat.beq f' f&&(Nat.beq id' id&&(natsB live' live&&(Nat.beq l.length n&&Nat.beq s' s)))) (some (F,l.map .inl++X)) Option.none
 | .ptr n p,F,.inl (.ptr m q),X=>cond (Nat.beq m n&&wayB q p) (some (F,X)) Option.none
 | .pel n e,F,.inl (.ptr m [.elt i d]),X=>cond (Nat.beq m n&&Nat.beq d e) (some (F i,X)) Option.none
 | .tr c p,F,.inl (.tr d x q),X=>cond (wayB q p) (if h:d=c then some (F (h▸x),X) else Option.none) Option.none
 | .sub n c,F,.inl (.sub m d i j),X=>cond (Nat.beq m n&&Nat.beq d c) (some (F i j,X)) Option.none
 | .bsl n p c N,F,.inl (.bsl m q d M i j),X=>cond (Nat.beq m n&&(wayB q p&&(Nat.beq d c&&Nat.beq M N))) (some (F i j,X)) Option.none
 | _,_,_,_=>Option.none
def ap:(S:List Tk)->Cur U G S->List (It U)->Option G
 | [],F,[]=>some F
 | [],_,_::_=>none
 | _::_,_,[]=>none
 | t::S,F,x::X=>match t.st F x X with
  | some q=>ap S q.1 q.2
  | none=>none
theorem bcond{α:Type}{b:Bool}{x:Option α}{y:α}(h:cond b x none=some y):b=true/\x=some y:=by
 cases b with
 | true=>exact⟨rfl,h⟩
 | false=>cases h
theorem dcond{α:Type}{p:Prop}[d:Decidable p]{x:p->Option α}{y:α}(h:(if h:p then x h else none)=some y):∃ h:p,x h=some y:=by
 by_cases hp:p
 ·rw[dif_pos hp] at h;exact⟨hp,h⟩
 ·rw[dif_neg hp] at h;cases h
theorem st_ok{t:Tk}{F:t.fn U G}{x:It U}{X:List (It U)}{q:G×List (It U)}(h:t.st F x X=some q):∃ v,q.1=t.call F v/\t.mk v q.2=x::X:=by
 have sp {α:Type} {a b:α} (h:some a=some b):b=a:=(Option.some.inj h).symm
 unfold Tk.st at h
 split at h
 ·cases sp h;exact⟨(),rfl,rfl⟩
 ·split at h
  ·rename_i hk;subst hk;cases sp h;exact⟨_,rfl,rfl⟩
  ·cases h
 ·cases sp h;exact⟨_,rfl,rfl⟩
 ·cases sp h;exact⟨_,rfl,rfl⟩
 ·cases sp h;exact⟨(),rfl,rfl⟩
 ·cases sp h;exact⟨(),rfl,rfl⟩
 ·cases sp h;exact⟨(),rfl,rfl⟩
 ·cases sp h;exact⟨_,rfl,rfl⟩
 ·cases sp h;exact⟨_,rfl,rfl⟩
 ·cases sp h;exact⟨(),rfl,rfl⟩
 ·obtain⟨h1,h0⟩:=bcond h;clear h;cases Nat.eq_of_beq_eq_true h1;cases sp h0;exact⟨(),rfl,rfl⟩
 ·obtain⟨h1,h0⟩:=bcond h;clear h;cases Nat.eq_of_beq_eq_true h1;cases sp h0;exact⟨(),rfl,rfl⟩
 ·obtain⟨h1,h0⟩:=bcond h;clear h;cases Nat.eq_of_beq_eq_true h1;cases sp h0;exact⟨(),rfl,rfl⟩
 ·obtain⟨h1,h0⟩:=bcond h;clear h;cases Nat.eq_of_beq_eq_true h1;cases sp h0;exact⟨(),rfl,by simp only[Tk.mk];rw[(lefts_app _ _).1,(lefts_app _ _).2]⟩
 ·obtain⟨h1,h0⟩:=bcond h;clear h;cases Nat.eq_of_beq_eq_true h1;cases sp h0;exact⟨(),rfl,by simp only[Tk.mk];rw[(lefts_app _ _).1,(lefts_app _ _).2]⟩
 ·obtain⟨h1,h0⟩:=bcond h;clear h
  simp only[Bool.and_eq_true] at h1
  cases Nat.eq_of_beq_eq_true h1.1;cases Nat.eq_of_beq_eq_true h1.2;cases sp h0;exact⟨(),rfl,by simp only[Tk.mk];rw[(lefts_app _ _).1,(lefts_app _ _).2]⟩
 ·obtain⟨h1,h0⟩:=bcond h;clear h;obtain⟨rfl,h0⟩:=dcond h0;cases Nat.eq_of_beq_eq_true h1;cases sp h0;exact⟨_,rfl,rfl⟩
 ·obtain⟨h1,h0⟩:=bcond h;clear h;obtain⟨rfl,h0⟩:=dcond h0;cases boolB_eq h1;cases sp h0;exact⟨_,rfl,rfl⟩
 ·obtain⟨h1,h0⟩:=bcond h;clear h;obtain⟨rfl,h0⟩:=dcond h0;cases boolB_eq h1;cases sp h0;exact⟨_,rfl,rfl⟩
 ·obtain⟨rfl,h0⟩:=dcond h;cases sp h0;exact⟨_,rfl,rfl⟩
 ·obtain⟨rfl,h0⟩:=dcond h;cases sp h0;exact⟨_,rfl,rfl⟩
 ·obtain⟨rfl,h0⟩:=dcond h;cases sp h0;exact⟨_,rfl,rfl⟩
 ·obtain⟨h1,h0⟩:=bcond h;clear h
  simp only[Bool.and_eq_true] at h1
  cases Nat.eq_of_beq_eq_true h1.1;cases Nat.eq_of_beq_eq_true h1.2.1;cases natsB_eq h1.2.2.1;cases Nat.eq_of_beq_eq_true h1.2.2.2.1;cases Nat.eq_of_beq_eq_true h1.2.2.2.2
  cases sp h0;exact⟨(),rfl,by simp only[Tk.mk];rw[(lefts_app _ _).1,(lefts_app _ _).2]⟩
 ·obtain⟨h1,h0⟩:=bcond h;clear h
  simp only[Bool.and_eq_true] at h1
  cases Nat.eq_of_beq_eq_true h1.1;cases wayB_eq h1.2;cases sp h0;exact⟨(),rfl,rfl⟩
 ·obtain⟨h1,h0⟩:=bcond h;clear h
  simp only[Bool.and_eq_true] at h1
  cases Nat.eq_of_beq_eq_true h1.1;cases Nat.eq_of_beq_eq_true h1.2;cases sp h0;exact⟨_,rfl,rfl⟩
 ·obtain⟨h1,h0⟩:=bcond h;clear h;obtain⟨rfl,h0⟩:=dcond h0;cases wayB_eq h1;cases sp h0;exact⟨_,rfl,rfl⟩
 ·obtain⟨h1,h0⟩:=bcond h;clear h
  simp only[Bool.and_eq_true] at h1
  cases Nat.eq_of_beq_eq_true h1.1;cases Nat.eq_of_beq_eq_true h1.2;cases sp h0;exact⟨(_,_),rfl,rfl⟩
 ·obtain⟨h1,h0⟩:=bcond h;clear h
  simp only[Bool.and_eq_true] at h1
  cases Nat.eq_of_beq_eq_true h1.1;cases wayB_eq h1.2.1;cases Nat.eq_of_beq_eq_true h1.2.2.1;cases Nat.eq_of_beq_eq_true h1.2.2.2;cases sp h0;exact⟨(_,_),rfl,rfl⟩
 ·cases h
theorem apk_ok:∀ (S:List Tk) {F:Cur U G S} {X:List (It U)} {g:G},ap S F X=some g->∃ v,g=appl S F v/\put S v=X
 | [],F,[],g,h=>⟨(),(Option.some.inj h).symm,rfl⟩
 | [],F,_::_,g,h=>nomatch h
 | _::_,F,[],g,h=>nomatch h
 | t::S,F,x::X,g,h=>by
  simp only[ap] at h
  split at h
  ·rename_i q hq
   obtain⟨v,h1,h2⟩:=st_ok hq
   obtain⟨u,h3,h4⟩:=apk_ok S h
   exact⟨(v,u),by rw[h3,h1];rfl,by rw[<-h2,<-h4];rfl⟩
  ·cases h
def aOf:List (It U)->List (A U)
 | []=>[]
 | .inl a::X=>a::aOf X
 | .inr _::X=>aOf X
def oOf:List (It U)->List (AObj U)
 | []=>[]
 | .inl _::X=>oOf X
 | .inr a::X=>a::oOf X
def its:List (A U)->List (AObj U)->List (It U)
 | a::l,o=>.inl a::its l o
 | [],o=>o.map .inr
theorem its_of:∀ (l:List (A U)) (o:List (AObj U)),aOf (its l o)=l/\oOf (its l o)=o
 | a::l,o=>⟨congrArg (a::·) (its_of l o).1,(its_of l o).2⟩
 | [],[]=>⟨rfl,rfl⟩
 | [],a::o=>⟨(its_of [] o).1,congrArg (a::·) (its_of [] o).2⟩
abbrev Kt(U:Nat->Type):=A U->List (AObj U)->Prop
abbrev Cfn(U:Nat->Type):=Nat->List (A U)->List (AObj U)->Kt U->Prop
def altT(S:List Tk)(F:Cur U G S)(fin:G->Kt U->Prop)(R:Fn U):Fn U:=fun args objs K=>match ap S F (its args objs) with
 | some g=>Hold (fin g K)
 | none=>R args objs K
def altC(nb:Nat)(S:List Tk)(F:Cur U G S)(fin:G->Kt U->Prop)(R:Cfn U):Cfn U:=fun n args objs K=>cond (Nat.beq n nb)
 (match ap S F (its args objs) with
 | some g=>Hold (fin g K)
 | none=>R n args objs K) (R n args objs K)
theorem altT_ok{S:List Tk}{F:Cur U G S}{fin:G->Kt U->Prop}{R:Fn U}{args:List (A U)}{objs:List (AObj U)}{K:Kt U}(h:altT S F fin R args objs K) :
  (∃ v,args=aOf (put S v)/\objs=oOf (put S v)/\fin (appl S F v) K)\/R args objs K:=by
 unfold altT at h
 split at h
 ·rename_i g hg
  obtain⟨v,h1,h2⟩:=apk_ok S hg
  exact .inl ⟨v,by rw[h2,(its_of _ _).1],by rw[h2,(its_of _ _).2],h1▸h.out⟩
 ·exact .inr h
theorem altC_ok{nb:Nat}{S:List Tk}{F:Cur U G S}{fin:G->Kt U->Prop}{R:Cfn U}{n:Nat}{args:List (A U)}{objs:List (AObj U)}{K:Kt U}(h:altC nb S F fin R n args objs K) :
  (∃ v,n=nb/\args=aOf (put S v)/\objs=oOf (put S v)/\fin (appl S F v) K)\/R n args objs K:=by
 unfold altC at h
 cases hb:Nat.beq n nb with
 | true=>
  rw[hb] at h
  simp only[cond_true] at h
  split at h
  ·rename_i g hg
   obtain⟨v,h1,h2⟩:=apk_ok S hg
   exact .inl ⟨v,Nat.eq_of_beq_eq_true hb,by rw[h2,(its_of _ _).1],by rw[h2,(its_of _ _).2],h1▸h.out⟩
  ·exact .inr h
 | false=>rw[hb] at h;exact .inr h
abbrev TL(U:Nat->Type):=List (Nat×(Nat->Fn U))
abbrev CL(U:Nat->Type):=List (Nat×Nat×(Nat->Cfn U))
def tabT:TL U->Nat->Tab U
 | [],_,_=>fun _ _ _=>False
 | (g,F)::l,k,f=>cond (Nat.beq f g) (F k) (tabT l k f)
def tabC:CL U->Nat->Cut U
 | [],_,_,_=>fun _ _ _ _=>False
 | (g,i,F)::l,k,f,id=>cond (Nat.beq f g&&Nat.beq id i) (F k) (tabC l k f id)
theorem tabT_in{k f:Nat}{args:List (A U)}{bs:List (AObj U)}{K}:∀ {l:TL U},tabT l k f args bs K->∃ F,(f,F)∈l/\F k args bs K
 | [],h=>h.elim
 | (g,F)::l,h=>by
  simp only[tabT] at h
  cases hb:Nat.beq f g with
  | true=>rw[hb] at h;rw[Nat.eq_of_beq_eq_true hb];exact⟨F,by simp,h⟩
  | false=>rw[hb] at h;obtain⟨F',h1,h2⟩:=tabT_in (l:=l) h;exact⟨F',by simp[h1],h2⟩
theorem tabC_in{k f id nb:Nat}{vals:List (A U)}{objs:List (AObj U)}{K}:∀ {l:CL U},tabC l k f id nb vals objs K->∃ F,(f,id,F)∈l/\F k nb vals objs K
 | [],h=>h.elim
 | (g,i,F)::l,h=>by
  simp only[tabC] at h
  cases hb:(Nat.beq f g&&Nat.beq id i) with
  | true=>
   rw[hb] at h
   simp only[Bool.and_eq_true] at hb
   rw[Nat.eq_of_beq_eq_true hb.1,Nat.eq_of_beq_eq_true hb.2];exact⟨F,by simp,h⟩
  | false=>rw[hb] at h;obtain⟨F',h1,h2⟩:=tabC_in (l:=l) h;exact⟨F',by simp[h1],h2⟩
section
variable {E:Env U} {R:TL U} {Q:CL U} {f id:Nat} {S:List Tk} {F:Nat->Cur U G S} {fin:G->Kt U->Prop}
def TG(E:Env U)(R:TL U)(Q:CL U)(f:Nat)(F:Nat->Fn U):Prop:=
 (∀ args objs K,¬F 0 args objs K)/\∀ k args objs K,F (k+1) args objs K->RowOk E (tabT R k) (tabC Q k) f args objs K
theorem TG.none:TG E R Q f (fun _ _ _ _=>False):=⟨fun _ _ _ h=>h,fun _ _ _ _ h=>h.elim⟩
theorem TG.row{P:Nat->Fn U}(hz:(fun (v:Tp U S) (K:Kt U)=>fin (appl S (F 0) v) K)=fun _ _=>False)
  (ho:∀ k v K,fin (appl S (F (k+1)) v) K->RowOk E (tabT R k) (tabC Q k) f (aOf (put S v)) (oOf (put S v)) K) (hr:TG E R Q f P) :
  TG E R Q f (fun k=>altT S (F k) fin (P k)):=by
 refine⟨fun args objs K h=>?_,fun k args objs K h=>?_⟩
 ·rcases altT_ok h with ⟨v,-,-,h⟩|h
  ·have:=congrFun (congrFun hz v) K
   exact cast this h
  ·exact hr.1 _ _ _ h
 ·rcases altT_ok h with ⟨v,rfl,rfl,h0⟩|h
  ·exact ho k v K h0
  ·exact hr.2 _ _ _ _ h
theorem TG.fn{P:Nat->Fn U}(hf:fnOk E.P f=true)(hb:Nat.blt f 1000000=true)(hz:(fun (v:Tp U S) (K:Kt U)=>fin (appl S (F 0) v) K)=fun _ _=>False)
  (ho:(fun (k:Nat) (v:Tp U S) (K:Kt U)=>fin (appl S (F (k+1)) v) K)=fun k v K=>vfunc E (tabT R k) (tabC Q k) f (aOf (put S v)) (oOf (put S v)) K) (hr:TG E R Q f P) :
  TG E R Q f (fun k=>altT S (F k) fin (P k)):=
 .row hz (fun k v K h=>.fn hf hb ⟨cast (congrFun (congrFun (congrFun ho k) v) K) h⟩) hr
theorem TG.round{g:Nat}{P:Nat->Fn U}(hf:fnOk E.P g=true)(hb:Nat.blt id 1000000=true)(hz:(fun (v:Tp U S) (K:Kt U)=>fin (appl S (F 0) v) K)=fun _ _=>False)
  (ho:(fun (k:Nat) (v:Tp U S) (K:Kt U)=>fin (appl S (F (k+1)) v) K)=fun k v K=>vround E (tabT R k) (tabC Q k) g id (aOf (put S v)) (oOf (put S v)) K) (hr:TG E R Q (ykey g id) P) :
  TG E R Q (ykey g id) (fun k=>altT S (F k) fin (P k)):=
 .row hz (fun k v K h=>.round g id rfl hf hb ⟨cast (congrFun (congrFun (congrFun ho k) v) K) h⟩) hr
def CGo(E:Env U)(R:TL U)(Q:CL U)(f id:Nat)(live:List Nat)(F:Nat->Cfn U):Prop:=
 (∀ nb args objs K,¬F 0 nb args objs K)/\∀ k nb args objs K,F (k+1) nb args objs K->Hold (vcut E (tabT R k) (tabC Q k) f id live nb args objs K)
theorem CGo.none{live:List Nat}:CGo E R Q f id live (fun _ _ _ _ _=>False):=⟨fun _ _ _ _ h=>h,fun _ _ _ _ _ h=>h.elim⟩
def CG(E:Env U)(R:TL U)(Q:CL U)(f id:Nat)(F:Nat->Cfn U):Prop:=∃ live,cutOf f id E.cuts=some live/\fnOk E.P f=true/\CGo E R Q f id live F
theorem CG.of{F:Nat->Cfn U}(live:List Nat)(h:cutOf f id E.cuts=some live)(hf:fnOk E.P f=true)(hr:CGo E R Q f id live F):CG E R Q f id F:=⟨live,h,hf,hr⟩
end
end Go.V

set_option linter.unusedVariables false
namespace Go.V
variable {U:Nat->Type} {G:Type}
abbrev Tk.i:Tk:=.int .i64
abbrev Tk.t(c:Nat):Tk:=.ro true c
abbrev Tk.r(c:Nat):Tk:=.ro false c
def fN:Fn U:=fun _ _ _=>False
def cN:Cfn U:=fun _ _ _ _=>False
section
variable {E:Env U} {R:TL U} {Q:CL U} {f id:Nat} {S:List Tk} {F:Nat->Cur U G S} {fin:G->Kt U->Prop}
theorem dec_ok{α:Type}{S:List Tk}{mk:Cur U α S}{enc:α->A U}(he:(fun v:Tp U S=>[(Sum.inl (enc (appl S mk v)):It U)])=fun v=>put S v){a:A U}{x:α}(h:ap S mk [.inl a]=some x):enc x=a:=by
 obtain⟨v,h1,h2⟩:=apk_ok S h
 have:=congrFun he v
 rw[h2,<-h1] at this
 simpa using this
theorem TG.n:TG E R Q f (fun _=>fN):=.none
theorem TG.a{P:Nat->Fn U}(hf:fnOk E.P f=true)(hr:TG E R Q f P)(hb:Nat.blt f 1000000=true:=by kernel_rfl)(hz:(fun (v:Tp U S) (K:Kt U)=>fin (appl S (F 0) v) K)=fun _ _=>False:=by kernel_rfl)
  (ho:(fun (k:Nat) (v:Tp U S) (K:Kt U)=>fin (appl S (F (k+1)) v) K)=fun k v K=>vfunc E (tabT R k) (tabC Q k) f (aOf (put S v)) (oOf (put S v)) K:=by kernel_rfl) :
  TG E R Q f (fun k=>altT S (F k) fin (P k)):=.fn hf hb hz ho hr
theorem TG.y{g:Nat}{P:Nat->Fn U}(hf:fnOk E.P g=true)(hr:TG E R Q (ykey g id) P)(hb:Nat.blt id 1000000=true:=by kernel_rfl)(hz:(fun (v:Tp U S) (K:Kt U)=>fin (appl S (F 0) v) K)=fun _ _=>False:=by kernel_rfl)
  (ho:(fun (k:Nat) (v:Tp U S) (K:Kt U)=>fin (appl S (F (k+1)) v) K)=fun k v K=>vround E (tabT R k) (tabC Q k) g id (aOf (put S v)) (oOf (put S v)) K:=by kernel_rfl) :
  TG E R Q (ykey g id) (fun k=>altT S (F k) fin (P k)):=.round hf hb hz ho hr
theorem TG.h{P:Nat->Fn U}(ho:∀ k v K,fin (appl S (F (k+1)) v) K->RowOk E (tabT R k) (tabC Q k) f (aOf (put S v)) (oOf (put S v)) K)(hr:TG E R Q f P)
  (hz:(fun (v:Tp U S) (K:Kt U)=>fin (appl S (F 0) v) K)=fun _ _=>False:=by kernel_rfl):TG E R Q f (fun k=>altT S (F k) fin (P k)):=.row hz ho hr
def vcutL(E:Env U)(T:Tab U)(C:Cut U)(f id nb:Nat)(vals:List (A U))(objs:List (AObj U))(K:Kt U):Prop:=match cutOf f id E.cuts with
 | some live=>vcut E T C f id live nb vals objs K
 | .none=>False
def CO(E:Env U)(R:TL U)(Q:CL U)(f id:Nat)(F:Nat->Cfn U):Prop:=
 (∀ nb args objs K,¬F 0 nb args objs K)/\∀ k nb args objs K,F (k+1) nb args objs K->vcutL E (tabT R k) (tabC Q k) f id nb args objs K
theorem CO.n:CO E R Q f id (fun _=>cN):=⟨fun _ _ _ _ h=>h,fun _ _ _ _ _ h=>h.elim⟩
theorem CO.c{nb:Nat}{P:Nat->Cfn U}(hr:CO E R Q f id P)(hz:(fun (v:Tp U S) (K:Kt U)=>fin (appl S (F 0) v) K)=fun _ _=>False:=by kernel_rfl)
  (ho:(fun (k:Nat) (v:Tp U S) (K:Kt U)=>fin (appl S (F (k+1)) v) K)=fun k v K=>vcutL E (tabT R k) (tabC Q k) f id nb (aOf (put S v)) (oOf (put S v)) K:=by kernel_rfl) :
  CO E R Q f id (fun k=>altC nb S (F k) fin (P k)):=by
 refine⟨fun n args objs K h=>?_,fun k n args objs K h=>?_⟩
 ·rcases altC_ok h with ⟨v,-,-,-,h⟩|h
  ·exact cast (congrFun (congrFun hz v) K) h
  ·exact hr.1 _ _ _ _ h
 ·rcases altC_ok h with ⟨v,rfl,rfl,rfl,h0⟩|h
  ·exact cast (congrFun (congrFun (congrFun ho k) v) K) h0
  ·exact hr.2 _ _ _ _ _ h
abbrev TA(E:Env U)(R:TL U)(Q:CL U)(l:TL U):Prop:=∀ r∈l,TG E R Q r.1 r.2
abbrev CA(E:Env U)(R:TL U)(Q:CL U)(l:CL U):Prop:=∀ r∈l,fnOk E.P r.1=true/\CO E R Q r.1 r.2.1 r.2.2
theorem tn:TA E R Q []:=fun _ h=>nomatch h
theorem ta{F:Nat->Fn U}{l:TL U}(h:TG E R Q f F)(t:TA E R Q l):TA E R Q ((f,F)::l):=List.forall_mem_cons.2 ⟨h,t⟩
theorem cn:CA E R Q []:=fun _ h=>nomatch h
theorem ca{F:Nat->Cfn U}{l:CL U}(hf:fnOk E.P f=true)(h:CO E R Q f id F)(t:CA E R Q l):CA E R Q ((f,id,F)::l):=List.forall_mem_cons.2 ⟨⟨hf,h⟩,t⟩
theorem tablesH(ok:EnvOk2 E)(hm:E.P.follows .mixedOrders=true)(hT:TA E R Q R)(hC:CA E R Q Q)(k:Nat):TSound E (tabT R k)/\CSound E (tabC Q k):=by
 refine tables (T:=tabT R) (C:=tabC Q) ok hm ?_ ?_ ?_ ?_ k
 ·intro f args objs K h
  obtain⟨F,h1,h2⟩:=tabT_in h
  exact (hT _ h1).1 _ _ _ h2
 ·intro f id nb vals objs K h
  obtain⟨F,h1,h2⟩:=tabC_in h
  exact (hC _ h1).2.1 _ _ _ _ h2
 ·intro k f args objs K h
  obtain⟨F,h1,h2⟩:=tabT_in h
  cases (hT _ h1).2 k args objs K h2 with
  | fn q1 q2 q3=>exact .inl ⟨q1,q2,q3.out⟩
  | round g id q0 q1 q2 q3=>exact .inr (.inl ⟨g,id,q0,q1,q2,q3.out⟩)
  | row q=>exact .inr (.inr q)
 ·intro k f id live nb vals objs K hl h
  obtain⟨F,h1,h2⟩:=tabC_in h
  obtain⟨q1,q2⟩:=hC _ h1
  have:=q2.2 k _ _ _ _ h2
  unfold vcutL at this
  rw[hl] at this
  exact⟨q1,this⟩
end
end Go.V

set_option linter.unusedVariables false
namespace Go.V
def partsL(c:UInt8):List UInt8->List (List UInt8)
 | []=>[[]]
 | b::l=>cond (b==c) ([]::partsL c l) (match partsL c l with
  | w::r=>(b::w)::r
  | []=>[[b]])
def ofL(l:List UInt8):ByteArray:=⟨l.toArray⟩
def splitL(s p:ByteArray):List ByteArray:=(partsL (p.data.toList.headD 0) s.data.toList).map ofL
def asciiL(p:ByteArray):Bool:=decide (2<=p.size)&&(decide (p.size<=1000)&&p.data.toList.all fun b=>decide (b.toNat<128))
def trimL(s p:ByteArray):ByteArray:=ofL (Lib.trimS s.data.toList p.data.toList)
def atoiN(s:ByteArray):Int:=match Lib.atoiAll s.data.toList with
 | .ok v=>v
 | .syntax=>0
 | .range=>Lib.atoiSat s.data.toList
def atoiE(s:ByteArray):IV:=match Lib.atoiAll s.data.toList with
 | .ok _=>.nil
 | _=>.ref
def itoaL(n:Int):ByteArray:=ofL (Lib.itoa n)
end Go.V
