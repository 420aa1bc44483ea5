/- V: VRet, VHid, VCtl, VGo, VFun, VEnvOk, VSeat -/
import Derived.Test.YtnmecdecebdfiaaDoorVJ07
import Derived.Laws.Sem
import Derived.RangeFuncRecord
import Derived.RangeFuncIn
set_option linter.unusedVariables false
set_option linter.unusedSimpArgs false
namespace Go.V
variable {U:Nat->Type}
inductive AllR (P:Program) (tm:Array Value) (w:World):List ResultVar->List Value->Prop
 | nil:AllR P tm w [] []
 | tmp {d l vs}:AllR P tm w l vs->AllR P tm w (.tmp d::l) (tm.getD d undef::vs)
 | cell {d t l vs v}:((do loadVar t (<-asAddr (tm.getD d undef)):Sem Value).run P w=.ok v w)->AllR P tm w l vs->AllR P tm w (.cell d t::l) (v::vs)
theorem AllR.length{P:Program}{tm:Array Value}{w:World}{l:List ResultVar}{vs:List Value}(h:AllR P tm w l vs):vs.length=l.length:=by
 induction h with
 | nil=>rfl
 | tmp _ ih=>simp[ih]
 | cell _ _ ih=>simp[ih]
def oneV:List Value->Value
 | [v]=>v
 | vs=>.tuple vs.toArray
theorem results_run{P:Program}{tm:Array Value}{w:World}{fn:Func}{vs:List Value}(h:AllR P tm w fn.results.toList vs) :
  (results fn tm).run P w=.ok (oneV vs) w:=by
 have key:∀ {l:List ResultVar} {vs:List Value},AllR P tm w l vs->(l.mapM fun (x:ResultVar)=>(match x with
   | .tmp t=>pure (tm.getD t undef)
   | .cell a t=>do loadVar t (<-asAddr (tm.getD a undef)):Sem Value)).run P w=.ok vs w:=by
  intro l vs h
  induction h with
  | nil=>simp
  | tmp _ ih=>simp only[List.mapM_cons,Sem.run_bind,Sem.run_pure,Result.andThen_ok,ih]
  | cell h1 _ ih=>simp only[List.mapM_cons,Sem.run_bind,Sem.run_pure,Result.andThen_ok,ih] at h1 ⊢;rw[h1];simp only[Result.andThen_ok,ih]
 unfold results
 rw[Array.mapM_eq_mapM_toList]
 simp only[Sem.run_bind,Sem.run_map,Sem.run_pure]
 refine (congrArg (fun r=>Result.andThen (Result.andThen r (fun (a:List Value) w'=>Result.ok a.toArray w')) (fun (a:Array Value) w'=>Result.ok (if h:a.size=1 then a[0] else Value.tuple a) w')) (key h)).trans ?_
 clear h
 match vs with
 | []=>rfl
 | [v]=>rfl
 | v::u::l=>rfl
section
variable {E:Env U} {w:World} {St:Ck U->Nat->Prop} {ι:Nat->Option Value} {s:S U} {N:Nat} {tm:Array Value}
theorem asAddr_run(P:Program)(x:Addr):(asAddr (.pointer (some x))).run P w=.ok x w:=rfl
theorem loadVar_of(ok:EnvOk2 E){t:TypeId}{v:A U}{B off:Nat}{ds:List Value}(hf:fits E t v=true)(h:RC E w St ι [v] ds [])(hr:w.rangeAt B off ds) :
  ∃ x,(loadVar t ⟨B,off,.none⟩).run E.P w=.ok x w/\RV E w St ι v x:=by
 obtain⟨x,h1,h2⟩:=load_run ok hf h hr
 refine⟨x,?_,h2⟩
 simpa[Instr.loadAt,Instr.sureAddr] using h1
theorem res_run(ok:EnvOk2 E)(R:Rel E s N tm w ι St):∀ (res:List ResultVar),(∀ a∈resV E s res,a≠.none)->∃ vs,AllR E.P tm w res vs/\Holds E w St ι (resV E s res) vs
 | [],h=>⟨[],.nil,trivial⟩
 | .tmp d::l,h=>by
  simp only[resV,List.mem_cons,forall_eq_or_imp] at h
  obtain⟨vs,h1,h2⟩:=res_run ok R l h.2
  exact⟨_,.tmp h1,R.tmp d,h2⟩
 | .cell d t::l,h=>by
  simp only[resV,List.mem_cons,forall_eq_or_imp] at h ⊢
  obtain⟨vs,h1,h2⟩:=res_run ok R l h.2
  have hd:=R.tmp d
  cases hs:s.t d with
  | ptr n p=>
   rw[hs] at h hd
   simp only[] at h ⊢
   cases hf:fits E t (getO E (s.h n) p) with
   | false=>rw[hf] at h;exact absurd rfl h.1
   | true=>
    obtain⟨u,B,off,r1,r2,r3,r4⟩:=RV.ptr_inv hd
    obtain⟨ds,q1,q2⟩:=getO_at ok.toEnvOk R r1 r2 r3 (fits_iff hf).1
    obtain⟨x,e1,e2⟩:=loadVar_of ok hf q1 q2
    refine⟨x::vs,.cell ?_ h1,RT.of_rv e2,h2⟩
    rw[r4]
    simp only[Sem.run_bind,asAddr_run,Result.andThen_ok,e1]
  | _=>rw[hs] at h;exact absurd rfl h.1
theorem countN_append(n:Nat)(l m:List Nat):countN n (l++m)=countN n l+countN n m:=by
 induction l with
 | nil=>simp[countN]
 | cons x l ih=>simp only[List.cons_append,countN,ih];cases Nat.beq x n<;>simp<;>omega
theorem countN_pos{n:Nat}:∀ {l:List Nat},n∈l->1<=countN n l
 | [],h=>by cases h
 | x::l,h=>by
  simp only[countN]
  cases hb:Nat.beq x n with
  | true=>simp
  | false=>
   rcases List.mem_cons.1 h with rfl|h
   ·rw[Nat.beq_refl] at hb;simp at hb
   ·simpa using countN_pos h
structure Out (E:Env U) (s:S U) (ι:Nat->Option Value) (w:World) (St':Ck U->Nat->Prop) (cnt ns:List Nat) (bs:List Nat):Prop where
 nod:bs.Nodup
 own:∀ B∈bs,∃ m∈ns,isLst (s.h m)=true/\countN m cnt=1/\blkO (ι m)=some B
theorem Out.nil{St':Ck U->Nat->Prop}{cnt ns:List Nat}:Out E s ι w St' cnt ns []:=⟨.nil,fun B h=>by cases h⟩
theorem lst_live{o:AObj U}(h:isLst o=true):isLive o=true:=by cases o<;>first|rfl|(simp[isLst] at h;done)
theorem Out.append{St':Ck U->Nat->Prop}{cnt n1 n2 b1 b2:List Nat}(R:Rel E s N tm w ι St)(h1:Out E s ι w St' cnt n1 b1)(h2:Out E s ι w St' cnt n2 b2)(hc:∀ m,countN m (n1++n2)<=countN m cnt) :
  Out E s ι w St' cnt (n1++n2) (b1++b2):=by
 refine⟨List.nodup_append.2 ⟨h1.nod,h2.nod,fun B hB B' hB' e=>?_⟩,fun B hB=>?_⟩
 ·subst e
  obtain⟨m,m1,m2,m3,m4⟩:=h1.own B hB
  obtain⟨k,k1,k2,k3,k4⟩:=h2.own B hB'
  have:=R.dis m k B (lst_live m2) (lst_live k2) m4 k4
  subst this
  have hm:=hc m
  rw[countN_append,m3] at hm
  have:=countN_pos m1
  have:=countN_pos k1
  omega
 ·rcases List.mem_append.1 hB with hB|hB
  ·obtain⟨m,m1,m2⟩:=h1.own B hB;exact⟨m,List.mem_append_left _ m1,m2⟩
  ·obtain⟨m,m1,m2⟩:=h2.own B hB;exact⟨m,List.mem_append_right _ m1,m2⟩
mutual
theorem outA_ok(ok:EnvOk2 E)(R:Rel E s N tm w ι St){St':Ck U->Nat->Prop}(hS:∀ g B,St g B->St' g B)(cnt:List Nat)(hz:∀ m c l,s.h m=.lst c l->m∈cnt->countN m cnt≠1->∀ B,blkO (ι m)=some B->St' (.on false) B) :
  ∀ (q:A U) {cs:List Value},RC E w St ι [q] cs []->hole (outA s.h [] cnt q)=false->ptrs q=[]->(∀ m∈owns q,m∈cnt)->(∀ m,countN m (owns q)<=countN m cnt) →
  ∃ bs,RC E w St' noNm [outA s.h [] cnt q] cs bs/\isAgg (outA s.h [] cnt q)=isAgg q/\size E.sz (outA s.h [] cnt q)=size E.sz q/\Out E s ι w St' cnt (owns q) bs
 | .own m,cs,hc,hh,hp,hm,hn=>by
  obtain⟨v,rfl,hv⟩:=hc.own_inv
  have h0:=R.obj m
  cases hs:s.h m with
  | lst c l=>
   rw[hs] at h0
   simp only[outA,hs]
   cases hb:Nat.beq (countN m cnt) 1 with
   | true=>
    simp only[cond_true]
    rcases h0 with ⟨⟨a0,h1⟩,h2⟩|⟨B,off,cap,ds,h1,h2,h3,h4,h5,h6⟩
    ·rw[hv] at h1
     obtain rfl:=Option.some.inj h1
     subst h2
     exact⟨[],.uslE .nil,rfl,rfl,.nil⟩
    ·rw[hv] at h1
     obtain rfl:=Option.some.inj h1
     refine⟨[B],.usl (h2.encs ok.toEnvOk fun B h=>hS _ _ h) h3 h4 h5 h6 .nil,rfl,rfl,⟨by simp,fun B' hB'=>?_⟩⟩
     simp only[List.mem_cons,List.not_mem_nil,or_false] at hB'
     subst hB'
     exact⟨m,by simp[owns],by rw[hs];rfl,Nat.eq_of_beq_eq_true hb,by rw[hv];rfl⟩
   | false=>
    simp only[cond_false]
    have hne:countN m cnt≠1:=fun e=>by rw[e] at hb;simp at hb
    rcases h0 with ⟨⟨a0,h1⟩,h2⟩|⟨B,off,cap,ds,h1,h2,h3,h4,h5,h6⟩
    ·rw[hv] at h1
     obtain rfl:=Option.some.inj h1
     subst h2
     exact⟨[],.roE .nil,rfl,rfl,.nil⟩
    ·rw[hv] at h1
     obtain rfl:=Option.some.inj h1
     exact⟨[],.ro (h2.encs ok.toEnvOk fun B h=>hS _ _ h) h3 (hz m c l hs (hm m (by simp[owns])) hne B (by rw[hv];rfl)) h5 .nil,rfl,rfl,.nil⟩
  | fz c l=>
   rw[hs] at h0
   simp only[outA,hs]
   obtain⟨v',h1,h2⟩:=h0
   rw[hv] at h1
   obtain rfl:=Option.some.inj h1
   refine⟨[],?_,rfl,rfl,.nil⟩
   cases h2 with
   | roE _=>exact .roE .nil
   | ro q1 q2 q3 q4 _=>exact .ro (q1.encs ok.toEnvOk fun B h=>hS _ _ h) q2 (hS _ _ q3) q4 .nil
  | dead=>simp[outA,hs,hole] at hh
  | lp lf lid live vals j=>simp[outA,hs,hole] at hh
  | box q=>simp[outA,hs,hole] at hh
 | .agg l,cs,hc,hh,hp,hm,hn=>by
  simp only[outA]
  obtain⟨bs,h1,h2,h3⟩:=outAs_ok ok R hS cnt hz l hc.agg_inv (by simpa[outA,hole] using hh) (by simpa[ptrs] using hp) (by simpa[owns] using hm) (by simpa[owns] using hn)
  exact⟨bs,by simpa using RC.agg h1 .nil,rfl,by simp only[size];exact sizes_of h2,by simpa[owns] using h3⟩
 | .clo f l,cs,hc,hh,hp,hm,hn=>by
  simp only[outA] at hh ⊢
  cases hb:(ownss l).isEmpty with
  | false=>rw[hb] at hh;simp[hole] at hh
  | true=>
   rw[hb] at hh
   simp only[cond_true] at hh ⊢
   have hc':∃ vs:Array Value,cs=[fv f vs]/\RC E w St ι l ((vs.toList.map (·.cells.toList)).flatten) []/\vs.toList.map (fun v=>(v.cells.size,isAggV v))=l.map (fun a=>(size E.sz a,isAgg a)):=by
    cases hc with
    | clo h1 h2 h3=>cases h3;exact⟨_,rfl,h1,h2⟩
   obtain⟨vs,rfl,h3,h4⟩:=hc'
   obtain⟨bs,h1,h2,h5⟩:=outAs_ok ok R hS cnt hz l h3 (by simpa[hole] using hh) (by simpa[ptrs] using hp) (by simpa[owns] using hm) (by simpa[owns] using hn)
   have hbs:bs=[]:=by
    cases bs with
    | nil=>rfl
    | cons B bs=>
     obtain⟨m,hm,-⟩:=h5.own B (by simp)
     rw[List.isEmpty_iff.1 hb] at hm;cases hm
   subst hbs
   exact⟨[],.clo h1 (h4.trans h2.symm) .nil,rfl,rfl,.nil⟩
 | .nils c,cs,hc,hh,hp,hm,hn=>by
  cases hc;rename_i hn;cases hn
  exact⟨[],.uslE .nil,rfl,rfl,.nil⟩
 | .none,cs,hc,hh,hp,hm,hn=>by cases hc
 | .tup l,cs,hc,hh,hp,hm,hn=>by cases hc
 | .usl c l,cs,hc,hh,hp,hm,hn=>by simp[outA,hole] at hh
 | .bsl ..,cs,hc,hh,hp,hm,hn=>by simp[outA,hole] at hh
 | .sub ..,cs,hc,hh,hp,hm,hn=>by simp[outA,hole] at hh
 | .ptr ..,cs,hc,hh,hp,hm,hn=>by simp[ptrs] at hp
 | .yld ..,cs,hc,hh,hp,hm,hn=>by simp[ptrs] at hp
 | .tr c9 x9 p9,cs,hc,hh,hp,hm,hn=>⟨[],by cases hc with|tr h1 hn=>cases hn;exact .tr (h1.mono hS) .nil,rfl,rfl,.nil⟩
 | .iv x9,cs,hc,hh,hp,hm,hn=>⟨[],by cases hc;rename_i hv hn;cases hn;exact .iv hv .nil,rfl,rfl,.nil⟩
 | .gh g9,cs,hc,hh,hp,hm,hn=>⟨[],by cases hc;rename_i hn;cases hn;exact .gh .nil,rfl,rfl,.nil⟩
 | .int k n,cs,hc,hh,hp,hm,hn=>⟨[],by cases hc;rename_i hn;cases hn;exact .int .nil,rfl,rfl,.nil⟩
 | .bool k,cs,hc,hh,hp,hm,hn=>⟨[],by cases hc;rename_i hn;cases hn;exact .bool .nil,rfl,rfl,.nil⟩
 | .str k,cs,hc,hh,hp,hm,hn=>⟨[],by cases hc;rename_i hn;cases hn;exact .str .nil,rfl,rfl,.nil⟩
 | .nilp,cs,hc,hh,hp,hm,hn=>⟨[],by cases hc;rename_i hn;cases hn;exact .nilp .nil,rfl,rfl,.nil⟩
 | .nilf,cs,hc,hh,hp,hm,hn=>⟨[],by cases hc;rename_i hn;cases hn;exact .nilf .nil,rfl,rfl,.nil⟩
 | .arr c n xs,cs,hc,hh,hp,hm,hn=>by
  obtain⟨h1,h2,-⟩:=hc.arr_inv
  exact⟨[],by simpa[outA] using RC.arr h1 (h2.encs ok.toEnvOk fun B h=>hS _ _ h) .nil,rfl,rfl,.nil⟩
 | .ro g c xs,cs,hc,hh,hp,hm,hn=>by
  refine⟨[],?_,rfl,rfl,.nil⟩
  simp only[outA]
  cases hc with
  | roE hn=>cases hn;exact .roE .nil
  | ro h1 h2 h3 h4 hn=>cases hn;exact .ro (h1.encs ok.toEnvOk fun B h=>hS _ _ h) h2 (hS _ _ h3) h4 .nil
 | .clip g c xs,cs,hc,hh,hp,hm,hn=>by
  refine⟨[],?_,rfl,rfl,.nil⟩
  simp only[outA]
  cases hc with
  | clipE hn=>cases hn;exact .roE .nil
  | clip h1 h2 h3 hn=>cases hn;exact .ro (h1.encs ok.toEnvOk fun B h=>hS _ _ h) h2 (hS _ _ h3) (Nat.le_refl _) .nil
 | .rp g c xs i p,cs,hc,hh,hp,hm,hn=>by
  refine⟨[],?_,rfl,rfl,.nil⟩
  simp only[outA]
  cases hc with
  | rp h1 h2 h3 h4 h5 hn=>cases hn;exact .rp (h1.encs ok.toEnvOk fun B h=>hS _ _ h) h2 (hS _ _ h3) h4 h5 .nil
theorem outAs_ok(ok:EnvOk2 E)(R:Rel E s N tm w ι St){St':Ck U->Nat->Prop}(hS:∀ g B,St g B->St' g B)(cnt:List Nat)(hz:∀ m c l,s.h m=.lst c l->m∈cnt->countN m cnt≠1->∀ B,blkO (ι m)=some B->St' (.on false) B) :
  ∀ (q:List (A U)) {cs:List Value},RC E w St ι q cs []->holes (outAs s.h [] cnt q)=false->ptrss q=[]->(∀ m∈ownss q,m∈cnt)->(∀ m,countN m (ownss q)<=countN m cnt) →
  ∃ bs,RC E w St' noNm (outAs s.h [] cnt q) cs bs/\(outAs s.h [] cnt q).map (fun a=>(size E.sz a,isAgg a))=q.map (fun a=>(size E.sz a,isAgg a))/\Out E s ι w St' cnt (ownss q) bs
 | [],cs,hc,hh,hp,hm,hn=>by cases hc;exact⟨[],.nil,rfl,.nil⟩
 | q::l,cs,hc,hh,hp,hm,hn=>by
  obtain⟨c1,c2,b1,b2,rfl,hb,h1,h2⟩:=RC.cons_inv hc
  obtain⟨rfl,rfl⟩:=nil_or hb
  simp only[outAs,holes,Bool.or_eq_false_iff] at hh
  simp only[ownss] at hm hn ⊢
  obtain⟨p1,p2⟩:=app_nil (by simpa[ptrss] using hp:ptrs q++ptrss l=[])
  obtain⟨B1,i1,i2,i3,i4⟩:=outA_ok ok R hS cnt hz q h1 hh.1 p1 (fun m h=>hm m (List.mem_append_left _ h)) (fun m=>by have:=hn m;rw[countN_append] at this;omega)
  obtain⟨B2,j1,j2,j3⟩:=outAs_ok ok R hS cnt hz l h2 hh.2 p2 (fun m h=>hm m (List.mem_append_right _ h)) (fun m=>by have:=hn m;rw[countN_append] at this;omega)
  exact⟨B1++B2,by simp only[outAs];exact RC.cons i1 j1,by simp only[outAs,List.map_cons,i2,i3,j2],Out.append R i4 j3 hn⟩
end
end
end Go.V

set_option linter.unusedVariables false
set_option linter.unusedSimpArgs false
namespace Go.V
variable {U:Nat->Type}
section
variable {E:Env U} {w:World} {St:Ck U->Nat->Prop} {ι:Nat->Option Value} {s:S U} {N:Nat} {tm:Array Value} {w0:World} {St0:Ck U->Nat->Prop} {O0:Nat->Prop} {nb:Nat} {ιi:Nat->Option Value} {H:List (Nat×Obj)}
theorem Inv.putH{r:Nat}{o o':Obj}(I:Inv E N w0 St0 O0 (nb,ιi,(r,o)::H) s tm w ι St):Inv E N w0 St0 O0 (nb,ιi,(r,o')::H) s tm (w.putObj r o') ι St:=by
 obtain⟨h1,h2,h3,h4⟩:=I.hid (r,o) (by simp)
 simp only[] at h1 h2 h3 h4
 have hlt:=(Array.getElem?_eq_some_iff.1 h1).1
 have other:∀ B,B≠r->(w.putObj r o').heap[B]?=w.heap[B]?:=fun B h=>World.putObj_heap_other h
 have hn:=I.hnd
 simp only[List.map_cons,List.nodup_cons] at hn
 refine⟨I.rel.world (by simp) (fun B hB=>other B fun e=>h3 (e▸hB)) (fun n B h5 h6=>other B fun e=>h2 (e▸⟨n,h5,h6⟩)),⟨by simpa using I.fr.size,fun B hB ho=>?_,I.fr.out,I.fr.os,I.fr.tape,I.fr.drn⟩,I.own,I.gr,I.old,I.nbx,I.nbe,fun x hx=>?_,I.hnd,I.kn⟩
 ·rw[other B (fun e=>by subst e;rcases h4 with h|h;exact ho (.inl h);omega)]
  exact I.fr.same B hB ho
 ·rcases List.mem_cons.1 hx with rfl|hx
  ·exact⟨World.putObj_heap_same hlt,h2,h3,h4⟩
  ·obtain⟨g1,g2⟩:=I.hid x (List.mem_cons_of_mem _ hx)
   refine⟨?_,g2⟩
   rw[other x.1 (fun e=>hn.1 (e▸List.mem_map_of_mem hx))]
   exact g1
theorem Inv.dropH{x:Nat×Obj}(I:Inv E N w0 St0 O0 (nb,ιi,x::H) s tm w ι St):Inv E N w0 St0 O0 (nb,ιi,H) s tm w ι St:=
 ⟨I.rel,I.fr,I.own,I.gr,I.old,I.nbx,I.nbe,fun y hy=>I.hid y (List.mem_cons_of_mem _ hy),(List.nodup_cons.1 I.hnd).2,I.kn⟩
theorem Inv.newH(o:Obj)(I:Inv E N w0 St0 O0 (nb,ιi,H) s tm w ι St):Inv E N w0 St0 O0 (nb,ιi,(w.heap.size,o)::H) s tm (w.alloc o) ι St:=by
 have hlt:∀ B,B<w.heap.size->(w.alloc o).heap[B]?=w.heap[B]?:=fun B h=>by
  simp only[World.alloc,Array.getElem?_push];rw[if_neg (by omega)]
 have hh:∀ x∈H,x.1<w.heap.size:=fun x hx=>(Array.getElem?_eq_some_iff.1 (I.hid x hx).1).1
 refine⟨I.rel.world (by simp) (fun B hB=>hlt B (I.rel.stb B hB)) (fun n B h5 h6=>hlt B (I.rel.lt n B h5 h6)),I.fr.trans (Fr.alloc _ _ _),I.own,I.gr,I.old,I.nbx,I.nbe,fun x hx=>?_,?_,I.kn⟩
 ·rcases List.mem_cons.1 hx with rfl|hx
  ·refine⟨World.alloc_heap_new _ _,fun ⟨n,h1,h2⟩=>?_,fun h=>?_,.inr I.fr.size⟩
   ·have:=I.rel.lt n _ h1 h2;simp at this
   ·have:=I.rel.stb _ h;simp at this
  ·obtain⟨g1,g2⟩:=I.hid x hx
   exact⟨(hlt x.1 (hh x hx)).trans g1,g2⟩
 ·simp only[List.map_cons,List.nodup_cons]
  refine⟨fun h=>?_,I.hnd⟩
  obtain⟨x,hx,e⟩:=List.mem_map.1 h
  have:=hh x hx
  omega
theorem Inv.nameH{l:Nat}{L:Loop}{f id:Nat}{live:List Nat}{vals:List (A U)}(I:Inv E N w0 St0 O0 (nb,ιi,(l,.loop L)::H) s tm w ι St)(hf:∀ m,s.nx<=m->ι m=none)(hw:w0.heap.size<=l)
  (hL:LoopIs E f id live L) (hv:RVs E w St ι vals (live.map fun d=>L.tmps.getD d undef)) (hJ:JumpIs 0 L) :
  Inv E N w0 St0 O0 (nb,ιi,H) { s with h:=upd s.h s.nx (.lp f id live vals 0),nx:=s.nx+1 } tm w (upd ι s.nx (some (.func (.yield l) #[] #[]))) St ∧
   (∀ m,s.nx+1<=m->upd ι s.nx (some (.func (.yield l) #[] #[])) m=none):=by
 obtain⟨h1,h2,h3,h4⟩:=I.hid (l,.loop L) (by simp)
 simp only[] at h1 h2 h3 h4
 have hb:=hf s.nx (Nat.le_refl _)
 have hx:∀ m u,ι m=some u->upd ι s.nx (some (.func (.yield l) #[] #[])) m=some u:=fun m u h=>by
  rw[upd_ne _ _ (fun e=>by subst e;rw[hb] at h;cases h)];exact h
 have e:Ext w St ι w St (upd ι s.nx (some (.func (.yield l) #[] #[]))):=⟨fun _ _ h=>h,hx,fun _ _=>rfl,Nat.le_refl _⟩
 have R:=I.rel.adopt s.nx (.lp f id live vals 0) (.func (.yield l) #[] #[]) (I.rel.dead hb) (.inl hb) ⟨l,L,rfl,h1,hL,hv.ext e,hJ⟩ (fun B hl hB=>by
  simp only[blk,base,Option.map_some,Option.some.injEq] at hB
  subst hB
  exact⟨h3,fun m h5 h6=>h2 ⟨m,h5,h6⟩⟩)
 have own:∀ B,Own { s with h:=upd s.h s.nx (.lp f id live vals 0),nx:=s.nx+1 } (upd ι s.nx (some (.func (.yield l) #[] #[]))) B->B=l\/Own s ι B:=by
  rintro B ⟨m,l1,b1⟩
  change isLive (upd s.h s.nx _ m)=true at l1
  by_cases e:m=s.nx
  ·subst e;rw[upd_same] at b1;exact .inl (by simpa[blkO,blk,base] using b1.symm)
  ·rw[upd_ne _ _ e] at l1 b1;exact .inr ⟨m,l1,b1⟩
 have hn:=I.hnd
 simp only[List.map_cons,List.nodup_cons] at hn
 refine⟨⟨⟨R.tsz,R.tmp,R.obj,R.dis,R.stb,R.apt,R.sup⟩,I.fr,fun B hB=>?_,I.gr,fun n hn=>?_,Nat.le_succ_of_le I.nbx,I.nbe,fun x hx=>?_,hn.2,I.kn⟩,fun m hm=>?_⟩
 ·rcases own B hB with rfl|h
  ·exact .inr hw
  ·exact I.own B h
 ·have:=I.nbx
  rw[<-I.old n hn]
  exact upd_ne _ _ (by have:n<s.nb:=hn;omega)
 ·obtain⟨g1,g2,g3⟩:=I.hid x (List.mem_cons_of_mem _ hx)
  refine⟨g1,fun h=>?_,g3⟩
  rcases own x.1 h with e|h
  ·exact hn.1 (e▸List.mem_map_of_mem hx)
  ·exact g2 h
 ·rw[upd_ne _ _ (by omega)];exact hf m (by omega)
theorem Inv.dropL{n l:Nat}(I:Inv E N w0 St0 O0 (nb,ιi,H) s tm w ι St)(o':Obj)(hl:isLive (s.h n)=true)(hB:blkO (ι n)=some l)(k:Nat)(hk:s.nx<=k) :
  Inv E N w0 St0 O0 (nb,ιi,H) { s with h:=upd s.h n .dead,nx:=k } tm (w.putObj l o') ι St:=by
 have hown:Own s ι l:=⟨n,hl,hB⟩
 have other:∀ B,B≠l->(w.putObj l o').heap[B]?=w.heap[B]?:=fun B h=>World.putObj_heap_other h
 have sub:∀ B,Own { s with h:=upd s.h n .dead,nx:=k } ι B->Own s ι B:=by
  rintro B ⟨m,l1,b1⟩
  change isLive (upd s.h n .dead m)=true at l1
  by_cases e:m=n
  ·subst e;rw[upd_same] at l1;simp[isLive] at l1
  ·rw[upd_ne _ _ e] at l1;exact⟨m,l1,b1⟩
 have R:=(I.rel.kill n).world (w':=w.putObj l o') (by simp) (fun B hB'=>other B fun e=>I.rel.apt n l hl hB (e▸hB')) (fun m B l1 b1=>other B fun e=>by
  subst e
  change isLive (upd s.h n .dead m)=true at l1
  by_cases e:m=n
  ·subst e;rw[upd_same] at l1;simp[isLive] at l1
  ·rw[upd_ne _ _ e] at l1;exact e (I.rel.dis m n B l1 hl b1 hB))
 refine⟨⟨R.tsz,R.tmp,R.obj,R.dis,R.stb,R.apt,R.sup⟩,⟨by simpa using I.fr.size,fun B h1 h2=>?_,I.fr.out,I.fr.os,I.fr.tape,I.fr.drn⟩,fun B h=>I.own B (sub B h),I.gr,I.old,Nat.le_trans I.nbx hk,I.nbe,fun x hx=>?_,I.hnd,I.kn⟩
 ·rw[other B fun e=>by subst e;rcases I.own B hown with h|h;exact h2 (.inl h);omega]
  exact I.fr.same B h1 h2
 ·obtain⟨g1,g2,g3⟩:=I.hid x hx
  refine⟨?_,fun h=>g2 (sub _ h),g3⟩
  rw[other x.1 fun e=>g2 (e▸hown)]
  exact g1
abbrev Rnd:=Option (Nat×Loop)
def markOf(x:Nat×Obj):Deferred:={ target:=.collected x.1,args := #[] }
def FrOk(rnd:Rnd)(H:List (Nat×Obj))(b:Frame)(a:Act)(hb:Bool):Prop:=match rnd with
 | none=>b.roundOf=none/\a.defers=H.map markOf/\∀ x∈H,x.2=.deferred (some [])
 | some (l,L)=>b.roundOf=some l/\a.defers=[]/\H=[(l,.loop { L with state:=if hb then .ready else .busy })]
theorem FrOk.defers{rnd:Rnd}{b:Frame}{a a':Act}{hb:Bool}(h:FrOk rnd H b a hb)(e:a'.defers=a.defers):FrOk rnd H b a' hb:=by
 unfold FrOk at *
 cases rnd with
 | none=>exact⟨h.1,e.trans h.2.1,h.2.2⟩
 | some x=>exact⟨h.1,e.trans h.2.1,h.2.2⟩
theorem FrOk.round{rnd:Rnd}{b:Frame}{a:Act}{hb:Bool}(h:FrOk rnd H b a hb):b.roundOf=rnd.map (·.1):=by
 unfold FrOk at h
 cases rnd with
 | none=>exact h.1
 | some x=>exact h.1
theorem leave_marks{P:Program}(todo:List Item):∀ (H:List (Nat×Obj)) (w:World) (fr:Frame),Inv E N w0 St0 O0 (nb,ιi,H) s tm w ι St->(∀ x∈H,x.2=.deferred (some []))->fr.mode=.returning->fr.defers=H.map markOf →
  ∃ w',Inv E N w0 St0 O0 (nb,ιi,[]) s tm w' ι St/\∀ cs,Steps P (lone fr cs w) (lone { fr with defers:=[] } cs w')
 | [],w,fr,I,hd,hm,hf=>⟨w,I,fun cs=>by
   have:{ fr with defers:=[] }=fr:=by
    have:fr.defers=[]:=hf
    rw[<-this]
   rw[this]
   exact Steps.refl _ _⟩
 | (r,o)::H,w,fr,I,hd,hm,hf=>by
  have ho:o=.deferred (some []):=hd (r,o) (by simp)
  subst ho
  have h1:=(I.hid (r,.deferred (some [])) (by simp)).1
  simp only[] at h1
  have hs:=fun cs=>step_collected (P:=P) (fr:=fr) (cs:=cs) (w:=w) (by rw[hm];simp) hf rfl (run_takeDeferred (P:=P) h1)
  obtain⟨w',I',hst⟩:=leave_marks (P:=P) todo H _ { fr with defers:=[]++H.map markOf } (I.putH (o':=.deferred none)).dropH (fun x hx=>hd x (List.mem_cons_of_mem _ hx)) hm (by simp)
  exact⟨w',I',fun cs=>Steps.head (hs cs) (hst cs)⟩
end
end Go.V

set_option linter.unusedVariables false
set_option linter.unusedSimpArgs false
namespace Go.V
variable {U:Nat->Type}
section
variable {E:Env U} {w:World} {St:Ck U->Nat->Prop} {ι:Nat->Option Value} {s:S U} {N:Nat} {tm:Array Value} {w0:World} {St0:Ck U->Nat->Prop} {O0:Nat->Prop} {ι0:Ini} {K:A U->List (AObj U)->Prop}
theorem outAs_rvb(ok:EnvOk2 E)(R:Rel E s N tm w ι St){St':Ck U->Nat->Prop}(hS:∀ g B,St g B->St' g B)(cnt:List Nat)(hz:∀ m c l,s.h m=.lst c l->m∈cnt->countN m cnt≠1->∀ B,blkO (ι m)=some B->St' (.on false) B) :
  ∀ (q:List (A U)) {vs:List Value},Holds E w St ι q vs->anyTup q=false->holes (outAs s.h [] cnt q)=false->ptrss q=[]->(∀ m∈ownss q,m∈cnt)->(∀ m,countN m (ownss q)<=countN m cnt) →
  ∃ bs,RVb E w St' (outAs s.h [] cnt q) vs bs/\Out E s ι w St' cnt (ownss q) bs
 | [],vs,h,ht,hh,hp,hm,hn=>by cases vs with|nil=>exact⟨[],rfl,.nil⟩|cons _ _=>exact h.elim
 | q::l,vs,h,ht,hh,hp,hm,hn=>by
  cases vs with
  | nil=>exact h.elim
  | cons v vs=>
   simp only[outAs,holes,Bool.or_eq_false_iff] at hh
   simp only[ownss] at hm hn ⊢
   obtain⟨p1,p2⟩:=app_nil (by simpa[ptrss] using hp:ptrs q++ptrss l=[])
   have ht':noTup q=true/\anyTup l=false:=by
    cases q<;>first|exact⟨rfl,ht⟩|(simp[anyTup] at ht;done)
   have hq:q≠.none:=fun e=>by subst e;simp[outA,hole] at hh
   obtain⟨h1,h2⟩:=RT.rc h.1 hq ht'.1
   obtain⟨B1,i1,i2,i3,i4⟩:=outA_ok ok R hS cnt hz q h1 hh.1 p1 (fun m h=>hm m (List.mem_append_left _ h)) (fun m=>by have:=hn m;rw[countN_append] at this;omega)
   obtain⟨B2,j1,j2⟩:=outAs_rvb ok R hS cnt hz l h.2 ht'.2 hh.2 p2 (fun m h=>hm m (List.mem_append_right _ h)) (fun m=>by have:=hn m;rw[countN_append] at this;omega)
   exact⟨B1++B2,⟨B1,B2,rfl,i1,h2.trans i2.symm,j1⟩,Out.append R i4 j2 hn⟩
theorem fz_all(ok:EnvOk2 E)(R:Rel E s N tm w ι St)(cnt:List Nat):∃ St',(∀ g B,St g B->St' g B)/\(∀ g B,St' g B->St g B\/Own s ι B)/\(∀ B,An St' B->B<w.heap.size) ∧
  (∀ m c l,s.h m=.lst c l->m∈cnt->countN m cnt≠1->∀ B,blkO (ι m)=some B->St' (.on false) B)/\(∀ m B,isLst (s.h m)=true->countN m cnt=1->blkO (ι m)=some B->¬An St' B)/\Sup E w St':=by
 obtain⟨St',x,g,R',f,p⟩:=fzOf_ok ok (cnt.filter fun m=>countN m cnt != 1) (s:=s) (Frz.refl _) R (fun n c x h1 h2=>by rw[h1] at h2;cases h2)
 refine⟨St',x.st,g,R'.stb,fun m c l hm hc hn B hB=>p m (by simp[hc,hn]) (by rw[hm];rfl) B hB false,fun m B hl hc hB=>R'.apt m B ?_ hB,R'.sup⟩
 show isLive (upds s.h _ m)=true
 rw[upds_notin]
 ·exact lst_live hl
 ·intro hmem
  obtain⟨y,hy,e⟩:=List.mem_map.1 hmem
  have:=fzOf_names _ y hy
  rw[e,List.mem_filter] at this
  simp[hc] at this
theorem Holds.length{l:List (A U)}{vs:List Value}(h:Holds E w St ι l vs):l.length=vs.length:=by
 induction l generalizing vs with
 | nil=>cases vs with|nil=>rfl|cons _ _=>exact h.elim
 | cons a l ih=>cases vs with|nil=>exact h.elim|cons v vs=>simp[ih h.2]
theorem not_none_of(h:Nat->AObj U)(cnt:List Nat):∀ (l:List (A U)),holes (outAs h [] cnt l)=false->∀ a∈l,a≠.none
 | [],hh,a,ha=>by cases ha
 | q::l,hh,a,ha=>by
  simp only[outAs,holes,Bool.or_eq_false_iff] at hh
  rcases List.mem_cons.1 ha with rfl|ha
  ·intro e;subst e;simp[outA,hole] at hh
  ·exact not_none_of h cnt l hh.2 a ha
theorem outA_noTup(h:Nat->AObj U)(cnt:List Nat)(a:A U)(ht:noTup a=true):noTup (outA h [] cnt a)=true:=by
 cases a with
 | own m=>
  simp only[outA]
  cases h m with
  | lst c l=>simp only[];cases Nat.beq (countN m cnt) 1<;>rfl
  | _=>rfl
 | clo f l=>simp only[outA];cases (ownss l).isEmpty<;>rfl
 | tup l=>simp[noTup] at ht
 | _=>rfl
theorem holeT_eq(x:A U)(h:noTup x=true):holeT x=hole x:=by
 cases x<;>first|rfl|(simp[noTup] at h;done)
theorem kconvs_holds(ok:EnvOk2 E):∀ (l:List (A U)) {s:S U} {St:Ck U->Nat->Prop},Rel E s N tm w ι St->∃ St',Ext w St ι w St' ι/\(∀ g B,St' g B->St g B\/Own s ι B)/\Rel E { s with h:=upds s.h (kconvs E s.h l).2 } N tm w ι St' ∧
  (∀ n,isLive (upds s.h (kconvs E s.h l).2 n)=true->isLive (s.h n)=true)/\∀ vs,Holds E w St ι l vs->Holds E w St' ι (kconvs E s.h l).1 vs
 | [],s,St,R=>⟨St,Ext.refl,fun _ _ h=>.inl h,R,fun _ h=>h,fun vs h=>h⟩
 | q::l,s,St,R=>by
  obtain⟨St1,x1,g1,R1,l1,h1,-⟩:=kconv_ok ok R q
  obtain⟨St2,x2,g2,R2,l2,h2⟩:=kconvs_holds ok l R1
  simp only[kconvs,upds_append]
  refine⟨St2,x1.trans x2,fun g B h=>(g2 g B h).elim (g1 g B) fun ⟨n,a1,a2⟩=>.inr ⟨n,l1 n a1,a2⟩,R2,fun n h=>l1 n (l2 n h),fun vs h=>?_⟩
  cases vs with
  | nil=>exact h.elim
  | cons v vs=>exact⟨(h1 v h.1).ext x2,h2 vs (h.2.ext x1)⟩
theorem kconv_none(h:Nat->AObj U){q:A U}(hq:(kconv E h q).1≠.none):q≠.none:=fun e=>by subst e;exact hq rfl
theorem kconvs_none:∀ (l:List (A U)) (h:Nat->AObj U),(∀ a∈(kconvs E h l).1,a≠.none)->∀ a∈l,a≠.none
 | [],_,_,a,ha=>by cases ha
 | q::l,h,hk,a,ha=>by
  simp only[kconvs,List.mem_cons,forall_eq_or_imp] at hk
  rcases List.mem_cons.1 ha with rfl|ha
  ·exact kconv_none h hk.1
  ·exact kconvs_none l _ hk.2 a ha
theorem Inv.conv(ok:EnvOk2 E)(I:Inv E N w0 St0 O0 ι0 s tm w ι St)(res:List ResultVar):∃ St',Inv E N w0 St0 O0 ι0 { s with h:=upds s.h (kconvs E s.h (resV E s res)).2 } tm w ι St' ∧
  ((∀ a∈(kconvs E s.h (resV E s res)).1,a≠.none)->∃ vs,AllR E.P tm w res vs/\Holds E w St' ι (kconvs E s.h (resV E s res)).1 vs):=by
 obtain⟨St',x,g,R,lv,hh⟩:=kconvs_holds ok (resV E s res) I.rel
 have ow:∀ B,Own { s with h:=upds s.h (kconvs E s.h (resV E s res)).2 } ι B->Own s ι B:=fun B ⟨n,h1,h2⟩=>⟨n,lv n h1,h2⟩
 refine⟨St',⟨R,I.fr,fun B h=>I.own B (ow B h),fun q B h=>(g q B h).elim (I.gr q B) fun h=>.inr (I.own B h),I.old,I.nbx,I.nbe,fun y hy=>?_,I.hnd,fun c z B h=>x.st _ _ (I.kn c z B h)⟩,fun hn=>?_⟩
 ·obtain⟨h1,h2,h3,h4⟩:=I.hid y hy
  exact⟨h1,fun h=>h2 (ow _ h),fun ⟨q,h⟩=>(g q _ h).elim (fun h=>h3 ⟨q,h⟩) h2,h4⟩
 ·obtain⟨vs,h1,h2⟩:=res_run ok I.rel res (kconvs_none _ _ hn)
  exact⟨vs,h1,hh vs h2⟩
theorem vret_sound(ok:EnvOk2 E)(I:Inv E N w0 St0 O0 ι0 s tm w ι St){f:FuncId}{fn:Func}(hp:memN f E.procs=false)(hO:∀ B,¬O0 B)(hv:vret E f fn.results s K) :
  ∃ r v bs St',(results fn tm).run E.P w=.ok v w/\Result' E w0 St0 K v w r bs St':=by
 unfold vret at hv
 simp only[] at hv
 obtain⟨St9,I,hres⟩:=I.conv ok fn.results.toList
 revert hv I hres
 generalize ({ s with h:=upds s.h (kconvs E s.h (resV E s fn.results.toList)).2 }:S U)=s
 generalize (kconvs E _ (resV E _ fn.results.toList)).1=l
 intro hv I hres
 unfold vretL at hv
 rw[hp] at hv
 simp only[cond_false] at hv
 have R:=I.rel
 cases hb:(!holeT (outA s.h [] (owns (one l)) (one l))&&((ptrs (one l)).isEmpty&&!anyTup l)) with
 | false=>rw[hb] at hv;exact hv.elim
 | true=>
  rw[hb] at hv
  simp only[cond_true] at hv
  simp only[Bool.and_eq_true,Bool.not_eq_true',List.isEmpty_iff] at hb
  obtain⟨b1,b2,b3⟩:=hb
  obtain⟨St',f1,f2,f3,f4,f5,f6⟩:=fz_all ok R (owns (one l))
  have fin:∀ (r:A U) (v:Value) (bs:List Nat),K r []->RTb E w St' r v bs->Out E s ι w St' (owns (one l)) (owns (one l)) bs->Result' E w0 St0 K v w r bs St':=by
   intro r v bs hk hr ho
   refine⟨hk,hr,I.fr.mono fun B _ h=>h.resolve_left (hO B),f6,fun c x B h=>f1 _ _ (I.kn c x B h),fun B hB=>?_,ho.nod,fun g B hB=>?_,f3⟩
   ·obtain⟨m,m1,m2,m3,m4⟩:=ho.own B hB
    exact⟨(I.own B ⟨m,lst_live m2,m4⟩).resolve_left (hO B),R.lt m B (lst_live m2) m4,f5 m B m2 m3 m4⟩
   ·rcases f2 g B hB with h|h
    ·exact (I.gr g B h).imp id fun h=>h.resolve_left (hO B)
    ·exact .inr ((I.own B h).resolve_left (hO B))
  by_cases h1:∃ a,l=[a]
  ·obtain⟨a,rfl⟩:=h1
   have ht:noTup a=true:=by cases a<;>first|rfl|(simp[anyTup] at b3;done)
   simp only[one] at *
   have hh:hole (outA s.h [] (owns a) a)=false:=by
    rw[<-holeT_eq _ (outA_noTup s.h (owns a) a ht)];exact b1
   have hne:a≠.none:=fun e=>by subst e;simp[outA,hole] at hh
   obtain⟨vs,r1,r2⟩:=hres (by simpa using hne)
   obtain⟨v,rfl⟩:∃ v,vs=[v]:=by
    cases vs with
    | nil=>exact r2.elim
    | cons v vs=>cases vs with|nil=>exact⟨v,rfl⟩|cons _ _=>exact r2.2.elim
   obtain⟨c1,c2⟩:=RT.rc r2.1 hne ht
   obtain⟨bs,o1,o2,o3,o4⟩:=outA_ok ok R f1 (owns a) f4 a c1 hh b2 (fun _ h=>h) (fun _=>Nat.le_refl _)
   refine⟨_,v,bs,St',results_run r1,fin _ v bs hv ?_ o4⟩
   unfold RTb
   split
   ·rename_i heq
    rw[heq] at o1
    cases o1
   ·exact⟨o1,c2.trans o2.symm⟩
  ·have hone:one l=.tup l:=by
    cases l with
    | nil=>rfl
    | cons a l=>cases l with|nil=>exact absurd ⟨a,rfl⟩ h1|cons _ _=>rfl
   rw[hone] at b1 b2 f4 f5 hv fin
   simp only[outA,holeT,ptrs,owns] at b1 b2 f4 f5 hv fin
   obtain⟨vs,r1,r2⟩:=hres (not_none_of _ _ l b1)
   obtain⟨bs,o1,o2⟩:=outAs_rvb ok R f1 (ownss l) f4 l r2 b3 b1 b2 (fun _ h=>h) (fun _=>Nat.le_refl _)
   have hvs:oneV vs=.tuple vs.toArray:=by
    have:=r2.length
    cases vs with
    | nil=>rfl
    | cons v vs=>cases vs with
     | nil=>exact absurd (List.length_eq_one_iff.1 (by simpa using this)) h1
     | cons _ _=>rfl
   refine⟨_,_,bs,St',results_run r1,fin _ _ bs hv ?_ o2⟩
   rw[hvs]
   exact⟨vs.toArray,rfl,by simpa using o1⟩
theorem Holds.rt_one{ι:Nat->Option Value}{l:List (A U)}{vs:List Value}(h:Holds E w St ι l vs)(ht:∀ a∈l,noTup a=true):RT E w St ι (one l) (oneV vs):=by
 cases l with
 | nil=>cases vs with|nil=>exact⟨#[],rfl,trivial⟩|cons _ _=>exact h.elim
 | cons a l=>
  cases vs with
  | nil=>exact h.elim
  | cons v vs=>
   cases l with
   | nil=>cases vs with|nil=>exact h.1|cons _ _=>exact h.2.elim
   | cons b l=>
    cases vs with
    | nil=>exact h.2.elim
    | cons u vs=>
     show RT E w St ι (.tup (a::b::l)) _
     exact⟨(v::u::vs).toArray,rfl,by simpa using h.rvs ht⟩
theorem vretP_sound(ok:EnvOk2 E)(I:Inv E N w0 St0 O0 ι0 s tm w ι St)(hf:∀ m,s.nx<=m->ι m=none){f:FuncId}{fn:Func}(hp:memN f E.procs=true)(hv:vret E f fn.results s K) :
  ∃ r v objs ι' St',(results fn tm).run E.P w=.ok v w/\ResP E w0 St0 O0 ι0.2.1 ι0.1 K v w r objs ι' St':=by
 unfold vret at hv
 simp only[] at hv
 obtain⟨St9,I,hres⟩:=I.conv ok fn.results.toList
 have hnb:({ s with h:=upds s.h (kconvs E s.h (resV E s fn.results.toList)).2 }:S U).nx=s.nx:=rfl
 revert hv I hres hnb
 generalize ({ s with h:=upds s.h (kconvs E s.h (resV E s fn.results.toList)).2 }:S U)=s1
 generalize (kconvs E _ (resV E _ fn.results.toList)).1=l
 intro hv I hres hnb
 rw[<-hnb] at hf
 clear hnb
 unfold vretL at hv
 rw[hp] at hv
 simp only[cond_true] at hv
 cases hk:l.all known with
 | false=>rw[hk] at hv;exact hv.elim
 | true=>
  rw[hk] at hv
  simp only[cond_true] at hv
  cases hx:layG s1.h s1.nx (upto s1.nb) l with
  | none=>rw[hx] at hv;exact hv.elim
  | some x=>
   rw[hx] at hv
   have hk':∀ a∈l,known a=true:=by simpa using hk
   obtain⟨vs,r1,r2⟩:=hres fun a ha e=>by have:=hk' a ha;rw[e] at this;simp[known] at this
   have ht:∀ a∈l,noTup a=true:=fun a ha=>noTup_known (hk' a ha)
   obtain⟨ι2,L⟩:=layG_ok ok I.rel hx r2 ht (fun m h _=>hf m h)
   exact⟨_,_,x.objs,reι x.L ι2,St9,results_run r1,hv,L.vals.rt_one (layG_noTup hx ht),L.heap,fun n hn=>L.out n (by rw[<-L.len];exact hn),fun n hn=>L.old I hx n (by rw[I.nbe];exact hn),I.fr,fun B hB=>I.own B (L.own B (L.sub B hB)),I.gr,I.kn⟩
theorem vend_sound(ok:EnvOk2 E)(I:Inv E N w0 St0 O0 ι0 s tm w ι St)(hf:∀ m,s.nx<=m->ι m=none){j:Nat}(hv:vend j s K) :
  ∃ objs ι' St',ResP E w0 St0 O0 ι0.2.1 ι0.1 K (fv j #[]) w (.clo j []) objs ι' St'/\(∀ B,OwnH (nthO objs) ι' B->Own s ι B)/\∀ B,An St' B->An St B:=by
 unfold vend at hv
 cases hx:layG s.h s.nx (upto s.nb) [] with
 | none=>rw[hx] at hv;exact hv.elim
 | some x=>
  rw[hx] at hv
  obtain⟨ι2,L⟩:=layG_ok ok I.rel hx (us:=[]) trivial (fun a ha=>by cases ha) (fun m h _=>hf m h)
  exact⟨x.objs,reι x.L ι2,St,⟨hv,RV.mkclo (vs := #[]) .nil rfl,L.heap,fun n hn=>L.out n (by rw[<-L.len];exact hn),fun n hn=>L.old I hx n (by rw[I.nbe];exact hn),I.fr,fun B hB=>I.own B (L.own B (L.sub B hB)),I.gr,I.kn⟩,
   fun B h=>L.own B (L.sub B h),fun _ h=>h⟩
def Ends(P:Program)(b:Frame)(todo:List Item)(a:Act)(w:World)(R:Ending->World->Prop):Prop:=
 (b.roundOf=none->∀ cs,∃ e w' fr,R e w'/\Comes P (lone (b.atR a todo) cs w) (lone fr cs w') e/\fr.fn=b.fn/\fr.leaving P w' e) ∧
 (b.roundOf≠none->∀ c cs,∃ v w',R (.returned v) w'/\Steps P (lone (b.atR a todo) (c::cs) w) (lone (c.finish v) cs w'))
theorem Ends.of{P:Program}{b:Frame}{todo:List Item}{a:Act}{w:World}{R:Ending->World->Prop}(h:∀ cs,∃ todo' a' w',Steps P (lone (b.atR a todo) cs w) (lone (b.atR a' todo') cs w')/\Ends P b todo' a' w' R):Ends P b todo a w R:=by
 refine⟨fun hr cs=>?_,fun hr c cs=>?_⟩
 ·obtain⟨todo',a',w',h1,h2⟩:=h cs
  obtain⟨x,w2,fr,g1,g2,g3⟩:=h2.1 hr cs
  exact⟨x,w2,fr,g1,Comes.of_steps h1 g2,g3⟩
 ·obtain⟨todo',a',w',h1,h2⟩:=h (c::cs)
  obtain⟨v,w2,g1,g2⟩:=h2.2 hr c cs
  exact⟨v,w2,g1,Steps.trans h1 g2⟩
theorem Ends.step{P:Program}{b:Frame}{todo todo':List Item}{a a':Act}{w w':World}{R:Ending->World->Prop}(h:∀ cs,step P (lone (b.atR a todo) cs w)=.next (lone (b.atR a' todo') cs w'))(e:Ends P b todo' a' w' R):Ends P b todo a w R:=
 .of fun cs=>⟨todo',a',w',.one (h cs),e⟩
def RetPost(E:Env U)(f:FuncId)(w0:World)(St0:Ck U->Nat->Prop)(O0:Nat->Prop)(nb:Nat)(ιi:Nat->Option Value)(K:A U->List (AObj U)->Prop)(e:Ending)(w':World):Prop:=
 (memN f E.procs=false/\∃ r v bs St',e=.returned v/\Result' E w0 St0 K v w' r bs St') ∨
 (memN f E.procs=true/\∃ r v objs ι' St',e=.returned v/\ResP E w0 St0 O0 ιi nb K v w' r objs ι' St')
def FPost(E:Env U)(rnd:Rnd)(f:FuncId)(w0:World)(St0:Ck U->Nat->Prop)(O0:Nat->Prop)(nb:Nat)(ιi:Nat->Option Value)(K:A U->List (AObj U)->Prop):Ending->World->Prop:=match rnd with
 | none=>RetPost E f w0 St0 O0 nb ιi K
 | some (l,L)=>RndPost E l L w0 St0 O0 ιi nb K
def Plain(E:Env U)(f:FuncId)(O0:Nat->Prop):Prop:=memN f E.procs=false->∀ B,¬O0 B
variable {nb:Nat} {ιi:Nat->Option Value} {H:List (Nat×Obj)} {rnd:Rnd}
theorem ends_ret{b:Frame}{todo:List Item}{a:Act}{hb:Bool}(ok:EnvOk2 E)(I:Inv E N w0 St0 O0 (nb,ιi,H) s a.tmps w ι St)(hf:∀ m,s.nx<=m->ι m=none){f:FuncId}(hO:Plain E f O0){fn:Func}(hfn:E.P.funcs[b.fn]?=some fn)(hk:b.kind=.normal)
  (hF:FrOk none H b a hb) (hv:vret E f fn.results s K)
  (hstep:∀ cs,Go.step E.P (lone (b.atR a todo) cs w)=.next (lone { b.atR a todo with mode:=.returning } cs w)):Ends E.P b todo a w (RetPost E f w0 St0 O0 nb ιi K):=by
 refine⟨fun _ cs=>?_,fun h=>absurd hF.1 h⟩
 obtain⟨w',I',hst⟩:=leave_marks (P:=E.P) todo H w { b.atR a todo with mode:=.returning } I hF.2.2 rfl hF.2.1
 have hgo:Steps E.P (lone (b.atR a todo) cs w) (lone { { b.atR a todo with mode:=.returning } with defers:=[] } cs w'):=Steps.head (hstep cs) (hst cs)
 cases hp:memN f E.procs with
 | false=>
  obtain⟨r,v,bs,St',h1,h2⟩:=vret_sound ok I' hp (hO hp) hv
  exact⟨.returned v,w',_,.inl ⟨hp,r,v,bs,St',rfl,h2⟩,hgo,rfl,rfl,rfl,hk,fn,hfn,h1⟩
 | true=>
  obtain⟨r,v,objs,ι',St',h1,h2⟩:=vretP_sound ok I' hf hp hv
  exact⟨.returned v,w',_,.inr ⟨hp,r,v,objs,ι',St',rfl,h2⟩,hgo,rfl,rfl,rfl,hk,fn,hfn,h1⟩
theorem ends_round{b:Frame}{todo:List Item}{a:Act}{hb:Bool}{l:Nat}{L:Loop}(ok:EnvOk2 E)(I:Inv E N w0 St0 O0 (nb,ιi,H) s a.tmps w ι St)(hf:∀ m,s.nx<=m->ι m=none)(hF:FrOk (some (l,L)) H b a hb){j:Nat}(hv:vend j s K)
  (hstep:∀ c cs v w',(Instr.endRound l (jumpOf j)).run E.P w=.ok v w'->Go.step E.P (lone (b.atR a todo) (c::cs) w)=.next (lone (c.finish v) cs w')):Ends E.P b todo a w (RndPost E l L w0 St0 O0 ιi nb K):=by
 refine⟨fun h=>absurd (hF.1.symm.trans h) (by simp),fun _ c cs=>?_⟩
 obtain⟨h1,h2,rfl⟩:=hF
 have hh:=(I.hid _ (List.mem_singleton.2 rfl)).1
 simp only[] at hh
 have hlt:=(Array.getElem?_eq_some_iff.1 hh).1
 have hrun:=run_endRound (P:=E.P) (jumpOf j) hh
 have hj:(jumpOf j).isNone=Nat.beq j 0:=by
  cases j with
  | zero=>rfl
  | succ j=>cases j<;>rfl
 have hL:({ { L with state:=if hb then .ready else .busy } with state:=if (jumpOf j).isNone then .ready else .done,pending:=jumpOf j }:Loop)=endL L j:=by
  unfold endL
  cases j with
  | zero=>rfl
  | succ j=>cases j<;>rfl
 have I':=I.putH (o':=.loop (endL L j))
 obtain⟨objs,ι',St',g1,g2,g3⟩:=vend_sound ok I' hf hv
 obtain⟨i1,i2,i3,-⟩:=I'.hid _ (List.mem_singleton.2 rfl)
 refine⟨.bool (Nat.beq j 0),_,⟨j,objs,ι',St',rfl,i1,g1,fun h=>i2 (g2 _ h),fun h=>i3 (g3 _ h)⟩,.one (hstep c cs _ _ ?_)⟩
 rw[hrun,hj,<-hL,hj]
def ctxsT:List Item->List (Nat×List Item)
 | .code c::k=>ctxs c k++ctxsT k
 | .inLoop c::k=>ctxs c (.inLoop c::k)++ctxsT k
 | _::k=>ctxsT k
 | []=>[]
theorem ctxsT_exit{id:Nat}:∀ {k k':List Item},exitTo id k=some k'->∀ x∈ctxsT k',x∈ctxsT k
 | [],k',h=>by simp[exitTo] at h
 | i::k,k',h=>by
  intro x hx
  have rest:exitTo id k=some k'->x∈ctxsT (i::k):=fun h=>by
   have:=ctxsT_exit h x hx
   cases i<;>simp only[ctxsT,List.mem_append]<;>first|exact .inr this|exact this
  cases i with
  | inBlock j=>
   simp only[exitTo] at h
   split at h
   ·obtain rfl:=Option.some.inj h;exact hx
   ·exact rest h
  | _=>exact rest (by simpa[exitTo] using h)
def dstsIn(N:Nat):List Oper->Bool
 | []=>true
 | o::l=>(match o.dst with|some d=>Nat.blt d N|.none=>true)&&dstsIn N l
theorem dstsIn_iff{N:Nat}:∀ {l:List Oper},dstsIn N l=true->∀ o∈l,∀ d,o.dst=some d->d<N
 | [],h,o,ho=>by cases ho
 | x::l,h,o,ho=>by
  simp only[dstsIn,Bool.and_eq_true] at h
  intro d hd
  rcases List.mem_cons.1 ho with rfl|ho
  ·rw[hd] at h;simpa[Nat.blt_eq] using h.1
  ·exact dstsIn_iff h.2 o ho d hd
def okRow(N:Nat):Nat×List Item->Bool
 | (i,.code (.region j ops d)::_)=>Nat.beq i j&&(cond d (stat ops.toList) true&&dstsIn N ops.toList)
 | (i,.code (.rangeFunc _ ps a b)::_)=>Nat.beq i (lkey a b)&&ps.toList.all fun p=>Nat.blt p N
 | _=>false
def okRows(N:Nat):List (Nat×List Item)->Bool
 | []=>true
 | x::l=>okRow N x&&okRows N l
theorem okRows_iff{N:Nat}:∀ {l:List (Nat×List Item)},okRows N l=true->∀ x∈l,okRow N x=true
 | [],h,x,hx=>by cases hx
 | y::l,h,x,hx=>by
  simp only[okRows,Bool.and_eq_true] at h
  rcases List.mem_cons.1 hx with rfl|hx
  ·exact h.1
  ·exact okRows_iff h.2 x hx
def fstN:List (Nat×List Item)->List Nat
 | []=>[]
 | x::l=>x.1::fstN l
theorem fstN_eq(l:List (Nat×List Item)):fstN l=l.map (·.1):=by induction l with|nil=>rfl|cons x l ih=>simp[fstN,ih]
def places(c:Code):List (Nat×List Item):=ctxs c []++roundC (rnds c)
def placesOf(rd:Bool)(c:Code):List (Nat×List Item):=cond rd (roundC (rnds c)) (ctxs c [])
theorem placesOf_in{rd:Bool}{c:Code}{x:Nat×List Item}(h:x∈placesOf rd c):x∈places c:=by
 cases rd with
 | false=>exact List.mem_append_left _ h
 | true=>exact List.mem_append_right _ h
def okBody(N:Nat)(c:Code):Bool:=distinctN (fstN (places c))&&okRows N (places c)
theorem ctxOf_mem{id:Nat}{k:List Item}:∀ {l:List (Nat×List Item)},(l.map (·.1)).Nodup->(id,k)∈l->ctxOf id l=k
 | [],hn,h=>by cases h
 | (i,k')::l,hn,h=>by
  simp only[List.map_cons,List.nodup_cons] at hn
  simp only[ctxOf]
  rcases List.mem_cons.1 h with h|h
  ·cases h;rw[Nat.beq_refl];rfl
  ·have:i≠id:=fun e=>hn.1 (e▸List.mem_map_of_mem (f:=(·.1)) h)
   have hb:Nat.beq i id=false:=by
    cases hb:Nat.beq i id with
    | false=>rfl
    | true=>exact absurd (Nat.eq_of_beq_eq_true hb) this
   rw[hb]
   exact ctxOf_mem hn.2 h
theorem placesOf_rd{rd:Bool}{c:Code}{id:Nat}{k:List Item}(hn:((places c).map (·.1)).Nodup)(h:(id,k)∈placesOf rd c):inRd id c=rd:=by
 unfold inRd
 unfold places at hn
 rw[List.map_append] at hn
 cases rd with
 | true=>rw[memN_iff];exact List.mem_map_of_mem (f:=(·.1)) h
 | false=>
  rw[memN_false]
  intro hm
  exact (List.nodup_append.1 hn).2.2 id (List.mem_map_of_mem (f:=(·.1)) h) id hm rfl
theorem rnds_of:∀ (c:Code) (k:List Item) (x:Nat×List Item),x∈ctxs c k->∀ g ps a b k',x.2=.code (.rangeFunc g ps a b)::k'->(a,b)∈rnds c
 | .region id ops d,k,x,hx,g,ps,a,b,k',e=>by
  simp only[ctxs,List.mem_cons,List.not_mem_nil,or_false] at hx
  subst hx
  simp at e
 | .seq p q,k,x,hx,g,ps,a,b,k',e=>by
  simp only[ctxs,List.mem_append] at hx
  simp only[rnds,List.mem_append]
  exact hx.imp (fun h=>rnds_of p _ x h g ps a b k' e) (fun h=>rnds_of q _ x h g ps a b k' e)
 | .cond _ p q,k,x,hx,g,ps,a,b,k',e=>by
  simp only[ctxs,List.mem_append] at hx
  simp only[rnds,List.mem_append]
  exact hx.imp (fun h=>rnds_of p _ x h g ps a b k' e) (fun h=>rnds_of q _ x h g ps a b k' e)
 | .block i c,k,x,hx,g,ps,a,b,k',e=>rnds_of c _ x hx g ps a b k' e
 | .scope c,k,x,hx,g,ps,a,b,k',e=>rnds_of c _ x hx g ps a b k' e
 | .loop c,k,x,hx,g,ps,a,b,k',e=>rnds_of c _ x hx g ps a b k' e
 | .rangeFunc g' ps' a' b',k,x,hx,g,ps,a,b,k',e=>by
  simp only[ctxs,List.mem_cons,List.not_mem_nil,or_false] at hx
  subst hx
  simp only[List.cons.injEq,Item.code.injEq,Code.rangeFunc.injEq] at e
  obtain⟨⟨-,-,rfl,rfl⟩,-⟩:=e
  simp[rnds]
 | .skip,k,x,hx,g,ps,a,b,k',e=>by simp[ctxs] at hx
 | .exit _,k,x,hx,g,ps,a,b,k',e=>by simp[ctxs] at hx
 | .ret,k,x,hx,g,ps,a,b,k',e=>by simp[ctxs] at hx
 | .label _,k,x,hx,g,ps,a,b,k',e=>by simp[ctxs] at hx
 | .goto _,k,x,hx,g,ps,a,b,k',e=>by simp[ctxs] at hx
 | .refuse _,k,x,hx,g,ps,a,b,k',e=>by simp[ctxs] at hx
theorem rnds_in:∀ (c:Code) (a b:Code),(a,b)∈rnds c->∀ x,x∈rnds a\/x∈rnds b->x∈rnds c
 | .seq p q,a,b,h,x,hx=>by
  simp only[rnds,List.mem_append] at h ⊢
  exact h.imp (fun h=>rnds_in p a b h x hx) (fun h=>rnds_in q a b h x hx)
 | .cond _ p q,a,b,h,x,hx=>by
  simp only[rnds,List.mem_append] at h ⊢
  exact h.imp (fun h=>rnds_in p a b h x hx) (fun h=>rnds_in q a b h x hx)
 | .block i c,a,b,h,x,hx=>rnds_in c a b h x hx
 | .scope c,a,b,h,x,hx=>rnds_in c a b h x hx
 | .loop c,a,b,h,x,hx=>rnds_in c a b h x hx
 | .rangeFunc g ps p q,a,b,h,x,hx=>by
  simp only[rnds,List.mem_cons,List.mem_append,Prod.mk.injEq] at h ⊢
  rcases h with ⟨rfl,rfl⟩|h|h
  ·exact .inr hx
  ·exact .inr (.inl (rnds_in p a b h x hx))
  ·exact .inr (.inr (rnds_in q a b h x hx))
 | .region ..,a,b,h,x,hx=>by simp[rnds] at h
 | .skip,a,b,h,x,hx=>by simp[rnds] at h
 | .exit _,a,b,h,x,hx=>by simp[rnds] at h
 | .ret,a,b,h,x,hx=>by simp[rnds] at h
 | .label _,a,b,h,x,hx=>by simp[rnds] at h
 | .goto _,a,b,h,x,hx=>by simp[rnds] at h
 | .refuse _,a,b,h,x,hx=>by simp[rnds] at h
theorem roundC_of:∀ (l:List (Code×Code)) (x:Nat×List Item),x∈roundC l->∃ a b,(a,b)∈l/\(x∈ctxs a [.beginRound,.code b]\/x∈ctxs b [])
 | [],x,h=>by simp[roundC] at h
 | (a,b)::l,x,h=>by
  simp only[roundC,List.mem_append] at h
  rcases h with h|h|h
  ·exact⟨a,b,by simp,.inl h⟩
  ·exact⟨a,b,by simp,.inr h⟩
  ·obtain⟨a',b',h1,h2⟩:=roundC_of l x h
   exact⟨a',b',List.mem_cons_of_mem _ h1,h2⟩
theorem roundC_in:∀ (l:List (Code×Code)) (a b:Code) (x:Nat×List Item),(a,b)∈l->(x∈ctxs a [.beginRound,.code b]\/x∈ctxs b [])->x∈roundC l
 | [],a,b,x,h,_=>by cases h
 | (p,q)::l,a,b,x,h,hx=>by
  simp only[roundC,List.mem_append]
  rcases List.mem_cons.1 h with h|h
  ·cases h;exact hx.imp id .inl
  ·exact .inr (.inr (roundC_in l a b x h hx))
theorem places_rnds{c:Code}{x:Nat×List Item}(hx:x∈places c){g:Operand}{ps:Array Tmp}{a b:Code}{k':List Item}(e:x.2=.code (.rangeFunc g ps a b)::k'):(a,b)∈rnds c:=by
 rcases List.mem_append.1 hx with h|h
 ·exact rnds_of c [] x h g ps a b k' e
 ·obtain⟨p,q,h1,h2⟩:=roundC_of _ x h
  refine rnds_in c p q h1 _ ?_
  exact h2.imp (fun h=>rnds_of p _ x h g ps a b k' e) (fun h=>rnds_of q _ x h g ps a b k' e)
theorem roundT_places{c a b:Code}(h:(a,b)∈rnds c):∀ x∈ctxsT (roundT a b),x∈placesOf true c:=by
 intro x hx
 simp only[roundT,ctxsT,List.mem_append,List.not_mem_nil,or_false] at hx
 exact roundC_in _ a b x h hx
def CutOk(E:Env U)(f:FuncId)(id:Nat)(live:List Nat)(nb:Nat)(vals:List (A U))(objs:List (AObj U))(K:A U->List (AObj U)->Prop):Prop:=
 ∀ (fn:Func) (N:Nat) (w0:World) (St0:Ck U->Nat->Prop) (O0:Nat->Prop) (nbi:Nat) (ιi:Nat->Option Value) (H:List (Nat×Obj)) (rnd:Rnd) (b:Frame) (a:Act) (w:World) (ι:Nat->Option Value) (St:Ck U->Nat->Prop),E.P.funcs[f]?=some fn->fn.ntmps<=N->b.fn=f->b.kind=.normal →
  inRd id (bodyOf E.P f)=rnd.isSome->FrOk rnd H b a (hasBegin (ctxAll id (bodyOf E.P f)))->(rnd=none->Plain E f O0) →
  Inv E N w0 St0 O0 (nbi,ιi,H) (S.ofLay live nb vals objs) a.tmps w ι St->(∀ m,objs.length<=m->ι m=none)->Ends E.P b (ctxAll id (bodyOf E.P f)) a w (FPost E rnd f w0 St0 O0 nbi ιi K)
def CSound(E:Env U)(C:Cut U):Prop:=∀ f id live nb vals objs K,cutOf f id E.cuts=some live->C f id nb vals objs K->CutOk E f id live nb vals objs K
end
end Go.V

set_option linter.unusedVariables false
set_option linter.unusedSimpArgs false
namespace Go.V
variable {U:Nat->Type}
section
variable {E:Env U} {w:World} {St:Ck U->Nat->Prop} {ι:Nat->Option Value} {s:S U} {N:Nat} {tm:Array Value} {w0:World} {St0:Ck U->Nat->Prop} {O0:Nat->Prop} {K:A U->List (AObj U)->Prop}
variable {nb:Nat} {ιi:Nat->Option Value} {H:List (Nat×Obj)} {rnd:Rnd}
theorem run_enterLoop_inner{P:Program}(fn:FuncId)(tmps:Array Value)(ps:Array Tmp)(assign body:Code){l0:Nat}{L0:Loop}(h:w.heap[l0]?=some (.loop L0)) :
  (Instr.enterLoop fn tmps ps assign body (some l0)).run P w=.ok (w.heap.size,[]) (w.alloc (.loop { state:=.ready,pending:=none,fn,tmps,params:=ps,assign,body,defers:=L0.defers })):=by
 unfold Instr.enterLoop
 simp only[Sem.run_bind,run_getLoop h,run_newObj_alloc,Result.andThen,Sem.run_pure,World.size_alloc]
theorem enter_ok{b:Frame}{a:Act}{hb:Bool}(I:Inv E N w0 St0 O0 (nb,ιi,H) s a.tmps w ι St)(hF:FrOk rnd H b a hb)(ps:Array Tmp)(as bd:Code) :
  ∃ l mark w1 H' L,(Instr.enterLoop b.fn a.tmps ps as bd b.roundOf).run E.P w=.ok (l,mark) w1/\L.state=.ready/\L.pending=none/\L.fn=b.fn/\L.tmps=a.tmps/\L.params=ps/\L.assign=as/\L.body=bd/\w.heap.size<=l ∧
   Inv E N w0 St0 O0 (nb,ιi,(l,.loop L)::H') s a.tmps w1 ι St/\FrOk rnd H' b { a with defers:=mark++a.defers } hb:=by
 cases rnd with
 | none=>
  obtain⟨h1,h2,h3⟩:=hF
  rw[h1]
  have I1:=I.newH (.deferred (some []))
  refine⟨_,_,_,(w.heap.size,.deferred (some []))::H,{ state:=.ready,pending:=none,fn:=b.fn,tmps:=a.tmps,params:=ps,assign:=as,body:=bd,defers:=w.heap.size },run_enterLoop_outer (P:=E.P) b.fn a.tmps ps as bd,rfl,rfl,rfl,rfl,rfl,rfl,rfl,Nat.le_succ _,?_,h1,?_,?_⟩
  ·have I2:=I1.newH (.loop { state:=.ready,pending:=none,fn:=b.fn,tmps:=a.tmps,params:=ps,assign:=as,body:=bd,defers:=w.heap.size })
   simpa using I2
  ·simp[h2,markOf]
  ·intro x hx
   rcases List.mem_cons.1 hx with rfl|hx
   ·rfl
   ·exact h3 x hx
 | some x=>
  obtain⟨l0,L0⟩:=x
  obtain⟨h1,h2,rfl⟩:=hF
  rw[h1]
  have hh:=(I.hid _ (List.mem_singleton.2 rfl)).1
  simp only[] at hh
  exact⟨_,_,_,_,{ state:=.ready,pending:=none,fn:=b.fn,tmps:=a.tmps,params:=ps,assign:=as,body:=bd,defers:=L0.defers },run_enterLoop_inner (P:=E.P) b.fn a.tmps ps as bd hh,rfl,rfl,rfl,rfl,rfl,rfl,rfl,Nat.le_refl _,I.newH _,h1,by simpa using h2,rfl⟩
theorem vrange_sound(ok:EnvOk2 E){T:Tab U}(TS:TSound E T){b:Frame}{a:Act}{g:Operand}{ps:Array Tmp}{as bd:Code}{k:List Item}{f:FuncId}{hb:Bool}{fn:Func}(hfb:b.fn=f)(I:Inv E N w0 St0 O0 (nb,ιi,H) s a.tmps w ι St)
  (hf:∀ m,s.nx<=m->ι m=none) (hF:FrOk rnd H b a hb) (hloop:∃ k',ctxAll (lkey as bd) (bodyOf E.P f)=.code (.rangeFunc g ps as bd)::k') (hfn:E.P.funcs[f]?=some fn) (hN:fn.ntmps<=N) {Kc:Nat->S U->Prop} (hv:vrange E T f g as bd s Kc) {R:Ending->World->Prop}
  (next:∀ j s' (a':Act) w' ι' St' H',Kc j s'->Inv E N w0 St0 O0 (nb,ιi,H') s' a'.tmps w' ι' St'->(∀ m,s'.nx<=m->ι' m=none)->FrOk rnd H' b a' hb->Ends E.P b (((jumpOf j).map Item.code).toList++k) a' w' R) :
  Ends E.P b (.code (.rangeFunc g ps as bd)::k) a w R:=by
 unfold vrange at hv
 cases hev:s.ev E 0 g with
 | clo gf caps=>
  rw[hev] at hv
  simp only[] at hv
  cases hpr:(memN gf E.procs&&Nat.blt gf 1000000) with
  | false=>rw[hpr] at hv;exact hv.elim
  | true=>
  rw[hpr] at hv
  simp only[cond_true] at hv
  simp only[Bool.and_eq_true] at hpr
  cases hlo:loopOf f (lid as bd) E.loops with
  | none=>rw[hlo] at hv;exact hv.elim
  | some live=>
  rw[hlo] at hv
  simp only[] at hv
  have hclo:=ev_ok ok I.rel 0 g
  rw[hev] at hclo
  obtain⟨vs,e1,e2,e3⟩:=RV.clo_inv hclo
  rw[fv_lt hpr.2] at e1
  obtain⟨l,mark,w1,H',L,he,L1,L2,L3,L4,L5,L6,L7,hl,I1,hF1⟩:=enter_ok I hF ps as bd
  have hLI:LoopIs E f (lid as bd) live L:=⟨⟨hlo,L3.trans hfb⟩,⟨g,by rw[L5,L6,L7];exact hloop⟩,fn,hfn,by rw[L4,I.rel.tsz];exact hN⟩
  have hvals:RVs E w1 St ι (live.map fun d=>untup (s.t d)) (live.map fun d=>L.tmps.getD d undef):=by
   rw[L4]
   exact (holds_live I1.rel live).rvs' fun q hq=>by
    obtain⟨d,-,rfl⟩:=List.mem_map.1 hq
    exact noTup_untup _
  obtain⟨I2,hf2⟩:=I1.nameH hf (Nat.le_trans I.fr.size hl) hLI hvals ⟨L1,L2⟩
  generalize hs1:({ s with h:=upd s.h s.nx (.lp f (lid as bd) live (live.map fun d=>untup (s.t d)) 0),nx:=s.nx+1 }:S U)=s1 at hv I2
  have hs1x:s1.nx=s.nx+1:=by rw[<-hs1]
  have hs1b:s1.nb=s.nb:=by rw[<-hs1]
  have ext1:Ext w St ι w1 St (upd ι s.nx (some (.func (.yield l) #[] #[]))):=by
   refine⟨fun _ _ h=>h,fun m u h=>?_,fun B hB=>?_,?_⟩
   ·rw[upd_ne _ _ (fun e=>by subst e;rw[hf _ (Nat.le_refl _)] at h;cases h)];exact h
   ·revert he
    cases rnd with
    | none=>
     rw[hF.1,run_enterLoop_outer]
     intro he
     cases he
     have:=I.rel.stb B hB.an
     simp only[World.alloc,Array.getElem?_push,Array.size_push]
     rw[if_neg (by omega),if_neg (by omega)]
    | some x=>
     obtain⟨l0,L0⟩:=x
     obtain⟨h1,h2,rfl⟩:=hF
     have hh:=(I.hid _ (List.mem_singleton.2 rfl)).1
     simp only[] at hh
     rw[h1,run_enterLoop_inner (P:=E.P) b.fn a.tmps ps as bd hh]
     intro he
     cases he
     have:=I.rel.stb B hB.an
     simp only[World.alloc,Array.getElem?_push]
     rw[if_neg (by omega)]
   ·revert he
    cases rnd with
    | none=>rw[hF.1,run_enterLoop_outer];intro he;cases he;simp;omega
    | some x=>
     obtain⟨l0,L0⟩:=x
     obtain⟨h1,h2,rfl⟩:=hF
     have hh:=(I.hid _ (List.mem_singleton.2 rfl)).1
     simp only[] at hh
     rw[h1,run_enterLoop_inner (P:=E.P) b.fn a.tmps ps as bd hh]
     intro he
     cases he
     simp
  unfold callP at hv
  cases hkn:(A.yld s.nx::caps:List (A U)).all known with
  | false=>rw[hkn] at hv;exact hv.elim
  | true=>
  rw[hkn] at hv
  simp only[cond_true] at hv
  cases hx:layG s1.h (s.nx+1) [] (.yld s.nx::caps) with
  | none=>rw[hx] at hv;exact hv.elim
  | some x=>
  rw[hx] at hv
  simp only[] at hv
  cases hbn:(Nat.ble x.n (s.nx+1+100)&&x.L.all fun m=>Nat.blt m x.n||Nat.ble (s.nx+1+100) m) with
  | false=>rw[hbn] at hv;exact hv.elim
  | true=>
  rw[hbn] at hv
  simp only[cond_true] at hv
  simp only[Bool.and_eq_true,Nat.ble_eq,List.all_eq_true,Bool.or_eq_true,Nat.blt_eq] at hbn
  obtain⟨hn,hL⟩:=hbn
  obtain⟨⟨fg,f1,f2,f3⟩,f4⟩:=((TS gf _ _ _ hv).1 hpr.2).2 hpr.1
  obtain⟨gbody,f2⟩:=Option.isSome_iff_exists.1 f2
  have hyv:RV E w1 St (upd ι s.nx (some (.func (.yield l) #[] #[]))) (.yld s.nx) (.func (.yield l) #[] #[]):=.mk1 (.yld (upd_same _ _ _) .nil) rfl rfl
  have hrv:RVs E w1 St (upd ι s.nx (some (.func (.yield l) #[] #[]))) (.yld s.nx::caps) (#[Value.func (.yield l) #[] #[]]++vs).toList:=by
   have h2:=(RVs.of_flat ok.toEnvOk e2 e3).ext ext1
   have h3:RVs E w1 St (upd ι s.nx (some (.func (.yield l) #[] #[]))) (.yld s.nx::caps) (Value.func (.yield l) #[] #[]::vs.toList):=⟨.inr hyv,h2⟩
   rw[Array.toList_append]
   exact h3
  obtain⟨ι2,LO⟩:=layG_ok ok I2.rel hx (hrv.holds hkn) (fun q hq=>noTup_known (by simpa using (List.all_eq_true.1 hkn) q hq)) (fun m h5 h6=>hf2 m h5)
  have hnt:∀ q∈x.vals,noTup q=true:=layG_noTup hx fun q hq=>noTup_known (by simpa using (List.all_eq_true.1 hkn) q hq)
  have hcall:=f4 w1 St (reι x.L ι2) _ (LO.vals.rvs hnt) LO.heap (fun m hm=>LO.out m (by rw[LO.len] at hm;exact hm))
  have hres:(resolve a.eval (rangeCall g l) 0).run E.P w1=.ok ({ target:=.fn (.func gf) vs,args := #[.func (.yield l) #[] #[]] }:Deferred) w1:=by
   have e0:(rangeCall g l).args.map a.eval = #[.func (.yield l) #[] #[]]:=by simp[rangeCall,Act.eval]
   simp only[resolve,e0,e1,Deferred.ofValue,Array.empty_append,Sem.run_pure]
  have hinv:(invoke (Target.fn (Fn.func gf) vs) #[.func (.yield l) #[] #[]]).run E.P w1=.ok (.enter gf (#[Value.func (.yield l) #[] #[]]++vs)) w1:=by
   simp only[invoke]
   exact MuLone.run_callFunc_enter f1 f3 f2 _ _
  refine .of fun cs=>?_
  have s1':=stepR_rangeFunc (P:=E.P) (b:=b) (a:=a) (k:=k) (cs:=cs) (w:=w) he hres hinv
  obtain⟨e,w3,fr,hR,hcome,-,hleave⟩:=hcall (b.atR { a with defers:=mark++a.defers } (.inRangeFunc l::k)::cs)
  obtain⟨r,v,objs,ι',St',rfl,q⟩:=hR
  have hkk:=q.k
  cases hb2:(Nat.ble x.L.length objs.length&&Nat.ble (x.n+(objs.length-x.L.length)) (s.nx+1+100)) with
  | false=>rw[hb2] at hkk;exact hkk.elim
  | true=>
  rw[hb2] at hkk
  simp only[cond_true] at hkk
  simp only[Bool.and_eq_true,Nat.ble_eq] at hb2
  obtain⟨ι4,St2,hs⟩:=proc_done (a:={ a with defers:=mark++a.defers }) ok I2.rel (fun m h5 h6=>hf2 m h5) none (fun _ h=>by cases h) LO hn hL q hb2.1 hb2.2
  have I3:=I2.step (a:={ a with defers:=mark++a.defers }) (by rw[hs1b];exact Nat.le_succ_of_le I.nbx) hs
  generalize hs2:(s1.put (x.wr++wrP x.L x.n 0 objs) none (mapA (unr x.L x.n) r))=s2 at hkk I3
  have h2x:s2.nx=s1.nx:=by rw[<-hs2];rfl
  have hιn:ι4 s.nx=some (.func (.yield l) #[] #[]):=hs.nm _ _ (upd_same _ _ _)
  cases hsn:s2.h s.nx with
  | lp lf lk live' vals' j=>
   rw[hsn] at hkk
   simp only[] at hkk
   have hobj:=I3.rel.obj s.nx
   rw[hsn,hιn] at hobj
   obtain⟨r',L',q1,q2,q3,q4,q5⟩:=hobj
   obtain rfl:l=r':=by simpa using q1
   have hend:(Instr.endLoop l).run E.P w3=.ok (jumpOf j) (w3.putObj l (.loop { L' with state:=.exhausted })):=by
    rw[run_endLoop (P:=E.P) q2 (by rw[q5.1];split<;>simp),q5.2]
   have I4:=I3.dropL (n:=s.nx) (l:=l) (.loop { L' with state:=.exhausted }) (by rw[hsn];rfl) (by rw[hιn];rfl) (s.nx+101) (by rw[h2x,hs1x];omega)
   refine⟨_,{ a with defers:=mark++a.defers },_,?_,next j _ { a with defers:=mark++a.defers } _ ι4 St2 H' hkk I4 (fun m hm=>?_) hF1⟩
   ·refine Steps.head s1' (Steps.trans hcome (Steps.head (step_leave_returned hleave) ?_))
    rw[finish_atR_inRangeFunc]
    exact .one (stepR_endRangeFunc hend)
   ·have hm':s.nx+101<=m:=hm
    cases hι:ι4 m with
    | none=>rfl
    | some u=>
     rcases hs.new m (by rw[hι];simp) with h|h
     ·exact absurd (hf2 m (by omega)) h
     ·omega
  | _=>rw[hsn] at hkk;exact hkk.elim
 | _=>rw[hev] at hv;exact hv.elim
theorem stepR_scope{P:Program}{b:Frame}{a:Act}{k:List Item}{cs:List Frame}{w:World}{c:Code}:step P (lone (b.atR a (.code (.scope c)::k)) cs w)=.next (lone (b.atR a (.code c::.inScope c::k)) cs w):=
 step_lone_go (by simp[stepG,stepG.exec,Frame.atR])
theorem stepR_inScope{P:Program}{b:Frame}{a:Act}{k:List Item}{cs:List Frame}{w:World}{c:Code}:step P (lone (b.atR a (.inScope c::k)) cs w)=.next (lone (b.atR a k) cs w):=
 step_lone_go (by simp[stepG,stepG.exec,Frame.atR])
theorem hasBegin_code(c:Code)(k:List Item):hasBegin (.code c::k)=hasBegin k:=rfl
theorem vgo_sound(ok:EnvOk2 E){T:Tab U}{C:Cut U}(TS:TSound E T)(CS:CSound E C)(hm:E.P.follows .mixedOrders=true){f:FuncId}{fn:Func}{body:Code}(hfn:E.P.funcs[f]?=some fn)(hbody:fn.body=some body)(hok:okBody fn.ntmps body=true)(hN:fn.ntmps<=N)(hO:rnd=none->Plain E f O0) :
  ∀ (n:Nat) (st:Bool) (todo:List Item) (s:S U) (b:Frame) (a:Act) (w:World) (ι:Nat->Option Value) (St:Ck U->Nat->Prop) (H:List (Nat×Obj)),vgo E T C f fn.results K rnd.isSome n st todo s->(∀ x∈ctxsT todo,x∈placesOf rnd.isSome body)->b.fn=f->b.kind=.normal->FrOk rnd H b a (hasBegin todo) →
   Inv E N w0 St0 O0 (nb,ιi,H) s a.tmps w ι St->(∀ m,s.nx<=m->ι m=none)->Ends E.P b todo a w (FPost E rnd f w0 St0 O0 nb ιi K)
 | 0,st,todo,s,b,a,w,ι,St,H,hv,hc,hb,hk,hF,I,hf=>hv.elim
 | n+1,st,todo,s,b,a,w,ι,St,H,hv,hc,hb,hk,hF,I,hf=>by
  have go:=fun st todo s a w ι St H h1 h2 h3 h4 h5=>vgo_sound ok TS CS hm hfn hbody hok hN hO n st todo s b a w ι St H h1 h2 hb hk h3 h4 h5
  have hfn':E.P.funcs[b.fn]?=some fn:=by rw[hb];exact hfn
  have hbo:bodyOf E.P f=body:=by unfold bodyOf;rw[hfn];simp only[hbody]
  unfold okBody at hok
  simp only[Bool.and_eq_true,fstN_eq,distinctN_iff] at hok
  have hro:=hF.round
  have ends:∀ (j:Nat) (todo:List Item) (hs:Bool),cond rnd.isSome (vend j s K) (vret E f fn.results s K)->FrOk rnd H b a hs->(rnd=none->∀ cs,Go.step E.P (lone (b.atR a todo) cs w)=.next (lone { b.atR a todo with mode:=.returning } cs w)) →
    (∀ l L,rnd=some (l,L)->∀ c cs v w',(Instr.endRound l (jumpOf j)).run E.P w=.ok v w'->Go.step E.P (lone (b.atR a todo) (c::cs) w)=.next (lone (c.finish v) cs w'))->Ends E.P b todo a w (FPost E rnd f w0 St0 O0 nb ιi K):=by
   intro j todo hs hv hF h1 h2
   cases hr:rnd with
   | none=>
    subst hr
    exact ends_ret ok I hf (hO rfl) hfn' hk hF hv (h1 rfl)
   | some x=>
    subst hr
    obtain⟨l,L⟩:=x
    exact ends_round ok I hf hF hv (h2 l L rfl)
  cases todo with
  | nil=>exact ends 0 [] _ hv hF (fun h cs=>stepR_end (by rw[hro,h];rfl)) (fun l L h c cs v w' h2=>stepR_round_end (by rw[hro,h];rfl) hk h2)
  | cons x k=>
   cases x with
   | inBlock j=>exact Ends.step (fun cs=>stepR_inBlock) (go _ _ _ _ _ _ _ _ hv hc hF I hf)
   | inScope j=>exact Ends.step (fun cs=>stepR_inScope) (go _ _ _ _ _ _ _ _ hv hc hF I hf)
   | inLoop c=>exact Ends.step (fun cs=>stepR_inLoop) (go _ _ _ _ _ _ _ _ hv (fun x hx=>hc x (by simp only[ctxsT,List.mem_append] at hx ⊢;rcases hx with h|h;exact .inl h;exact h)) hF I hf)
   | beginRound=>
    simp only[vgo] at hv
    cases hr:rnd with
    | none=>rw[hr] at hv;exact hv.elim
    | some x=>
     obtain⟨l,L⟩:=x
     cases hb':hasBegin k with
     | true=>rw[hr,hb'] at hv;exact hv.elim
     | false=>
      rw[hr] at hF
      obtain⟨h1,h2,rfl⟩:=hF
      have hh:=(I.hid _ (List.mem_singleton.2 rfl)).1
      simp only[] at hh
      have hrun:=run_beginRound (P:=E.P) hh rfl
      have I':=I.putH (o':=.loop { L with state:=.busy })
      rw[<-hr]
      refine Ends.step (fun cs=>stepR_beginRound h1 hrun) (go false _ _ _ _ _ _ _ ?_ hc ?_ I' hf)
      ·rw[hr,hb'] at hv;rw[hr];exact hv
      ·rw[hr]
       refine⟨h1,h2,?_⟩
       rw[hb'];rfl
   | code c=>
    rw[hasBegin_code] at hF
    cases c with
    | skip=>exact Ends.step (fun cs=>stepR_skip) (go _ _ _ _ _ _ _ _ hv (fun x hx=>hc x (by simpa[ctxsT,ctxs] using hx)) hF I hf)
    | label l=>exact Ends.step (fun cs=>stepR_label) (go _ _ _ _ _ _ _ _ hv (fun x hx=>hc x (by simpa[ctxsT,ctxs] using hx)) hF I hf)
    | scope c=>exact Ends.step (fun cs=>stepR_scope) (go _ _ _ _ _ _ _ _ hv (fun z hz=>hc z (by simpa[ctxsT,ctxs] using hz)) hF I hf)
    | seq x y=>exact Ends.step (fun cs=>stepR_seq) (go _ _ _ _ _ _ _ _ hv (fun z hz=>hc z (by simpa[ctxsT,ctxs] using hz)) hF I hf)
    | cond c x y=>
     simp only[vgo] at hv
     cases hev:s.ev E 0 c with
     | bool t=>
      rw[hev] at hv
      have hc':=ev_ok ok I.rel 0 c
      rw[hev] at hc'
      have hcv:=RV.bool_inv hc'
      refine Ends.step (fun cs=>stepR_cond hcv) ?_
      cases t with
      | true=>exact go _ _ _ _ _ _ _ _ hv (fun z hz=>hc z (by simp only[ctxsT,ctxs,List.mem_append,if_true] at hz ⊢;rcases hz with h|h;exact .inl (.inl h);exact .inr h)) hF I hf
      | false=>exact go _ _ _ _ _ _ _ _ hv (fun z hz=>hc z (by simp only[ctxsT,ctxs,List.mem_append,Bool.false_eq_true,if_false] at hz ⊢;rcases hz with h|h;exact .inl (.inr h);exact .inr h)) hF I hf
     | _=>rw[hev] at hv;exact hv.elim
    | block id c=>exact Ends.step (fun cs=>stepR_block) (go _ _ _ _ _ _ _ _ hv (fun z hz=>hc z (by simpa[ctxsT,ctxs] using hz)) hF I hf)
    | loop c=>exact Ends.step (fun cs=>stepR_loop) (go _ _ _ _ _ _ _ _ hv (fun z hz=>hc z (by simp only[ctxsT,ctxs,List.mem_append] at hz ⊢;rcases hz with h|h|h;exact .inl h;exact .inl h;exact .inr h)) hF I hf)
    | exit id=>
     simp only[vgo] at hv
     cases he:exitTo id k with
     | none=>
      rw[he] at hv
      simp only[] at hv
      cases hr:rnd with
      | none=>rw[hr] at hv;exact hv.elim
      | some x=>
       obtain⟨l,L⟩:=x
       rw[hr] at hv hF
       exact ends_round ok I hf hF hv fun c cs v w' h2=>stepR_round_exit (by rw[hro,hr];rfl) hk he h2
     | some k'=>
      rw[he] at hv
      simp only[] at hv
      cases hbb:(hasBegin k==hasBegin k') with
      | false=>rw[hbb] at hv;exact hv.elim
      | true=>
       rw[hbb] at hv
       rw[beq_iff_eq.1 hbb] at hF
       exact Ends.step (fun cs=>stepR_exit he) (go _ _ _ _ _ _ _ _ hv (fun z hz=>hc z (by simp only[ctxsT,ctxs,List.nil_append];exact ctxsT_exit he z hz)) hF I hf)
    | ret=>exact ends 1 _ _ hv hF (fun h cs=>stepR_ret (by rw[hro,h];rfl)) (fun l L h c cs v w' h2=>stepR_round_ret (by rw[hro,h];rfl) hk h2)
    | rangeFunc g ps as bd=>
     simp only[vgo] at hv
     have hmem:(lkey as bd,.code (.rangeFunc g ps as bd)::k)∈placesOf rnd.isSome body:=hc _ (by simp[ctxsT,ctxs])
     have hloop:ctxAll (lkey as bd) (bodyOf E.P f)=.code (.rangeFunc g ps as bd)::k:=by
      rw[hbo];exact ctxOf_mem hok.1 (placesOf_in hmem)
     refine vrange_sound ok TS hb I hf hF ⟨k,hloop⟩ hfn hN hv fun j s' a' w' ι' St' H' hk' I' hf' hF'=>?_
     match j,hk' with
     | 0,hk'=>exact go _ _ _ _ _ _ _ _ hk' (fun z hz=>hc z (by simp only[ctxsT,ctxs,List.mem_append];exact .inr hz)) hF' I' hf'
     | 1,hk'=>exact go _ _ _ _ _ _ _ _ hk' (fun z hz=>hc z (by simp only[ctxsT,ctxs,List.mem_append,List.nil_append] at hz ⊢;exact .inr hz)) hF' I' hf'
     | j+2,hk'=>exact go _ _ _ _ _ _ _ _ hk' (fun z hz=>hc z (by simp only[ctxsT,ctxs,List.mem_append,List.nil_append] at hz ⊢;exact .inr hz)) hF' I' hf'
    | region id ops draw=>
     have hmem:(id,.code (.region id ops draw)::k)∈placesOf rnd.isSome body:=hc _ (by simp[ctxsT,ctxs])
     have hrow:=okRows_iff hok.2 _ (placesOf_in hmem)
     simp only[okRow,Bool.and_eq_true] at hrow
     have hds:∀ o∈ops.toList,∀ d,o.dst=some d->d<N:=fun o ho d hd=>Nat.lt_of_lt_of_le (dstsIn_iff hrow.2.2 o ho d hd) hN
     have reg:vregion E T ops draw s (fun s'=>vgo E T C f fn.results K rnd.isSome n false k s')->Ends E.P b (.code (.region id ops draw)::k) a w (FPost E rnd f w0 St0 O0 nb ιi K):=by
      intro hv
      have:=vregion_sound (ro:=b.roundOf) ok TS hm (id:=id) hds (fun h=>by rw[h] at hrow;exact hrow.2.1) I hf hv (Q:=fun e a' w'=>e=.normal/\Ends E.P b k a' w' (FPost E rnd f w0 St0 O0 nb ιi K))
       (fun s' a' w' ι' St' hk' I' hf' hd'=>⟨rfl,go _ _ _ _ _ _ _ _ hk' (fun z hz=>hc z (by simp only[ctxsT,ctxs,List.mem_append];exact .inr hz)) (hF.defers hd') I' hf'⟩)
      refine .of fun cs=>?_
      obtain⟨e,a',w',⟨rfl,hE⟩,harr⟩:=this b k cs rfl trivial (room_wide _)
      exact⟨k,a',w',StepsIn.steps harr,hE⟩
     simp only[vgo] at hv
     cases st with
     | true=>exact reg hv
     | false=>
      cases hcut:cutOf f id E.cuts with
      | none=>rw[hcut] at hv;exact reg hv
      | some live=>
       rw[hcut] at hv
       simp only[] at hv
       cases hl:lay s live with
       | none=>rw[hl] at hv;exact hv.elim
       | some x=>
        rw[hl] at hv
        obtain⟨ι',I',hf'⟩:=lay_sound ok I hf hl
        have hat:ctxAll id body=.code (.region id ops draw)::k:=ctxOf_mem hok.1 (placesOf_in hmem)
        have:=CS f id live s.nb x.1 x.2 K hcut hv fn N w0 St0 O0 nb ιi H rnd b a w ι' St hfn hN hb hk (by rw[hbo];exact placesOf_rd hok.1 hmem) (by rw[hbo,hat];exact hF) hO I' hf'
        rw[hbo,hat] at this
        exact this
    | _=>exact hv.elim
   | _=>exact hv.elim
end
end Go.V

set_option linter.unusedVariables false
set_option linter.unusedSimpArgs false
namespace Go.V
variable {U:Nat->Type}
theorem ctxs_in:∀ (c:Code) (k:List Item),∀ y∈ctxs c k,∀ x∈ctxsT y.2,x∈ctxs c k\/x∈ctxsT k
 | .region id ops d,k,y,hy,x,hx=>by
  simp only[ctxs,List.mem_cons,List.not_mem_nil,or_false] at hy
  subst hy
  simpa[ctxsT,ctxs] using hx
 | .seq a b,k,y,hy,x,hx=>by
  simp only[ctxs,List.mem_append] at hy ⊢
  rcases hy with hy|hy
  ·rcases ctxs_in a _ y hy x hx with h|h
   ·exact .inl (.inl h)
   ·simp only[ctxsT,List.mem_append] at h
    rcases h with h|h
    ·exact .inl (.inr h)
    ·exact .inr h
  ·rcases ctxs_in b _ y hy x hx with h|h
   ·exact .inl (.inr h)
   ·exact .inr h
 | .cond c a b,k,y,hy,x,hx=>by
  simp only[ctxs,List.mem_append] at hy ⊢
  rcases hy with hy|hy
  ·rcases ctxs_in a _ y hy x hx with h|h
   ·exact .inl (.inl h)
   ·exact .inr h
  ·rcases ctxs_in b _ y hy x hx with h|h
   ·exact .inl (.inr h)
   ·exact .inr h
 | .block i c,k,y,hy,x,hx=>by
  simp only[ctxs] at hy ⊢
  rcases ctxs_in c _ y hy x hx with h|h
  ·exact .inl h
  ·exact .inr h
 | .scope c,k,y,hy,x,hx=>by
  simp only[ctxs] at hy ⊢
  rcases ctxs_in c _ y hy x hx with h|h
  ·exact .inl h
  ·exact .inr h
 | .loop c,k,y,hy,x,hx=>by
  simp only[ctxs] at hy ⊢
  rcases ctxs_in c _ y hy x hx with h|h
  ·exact .inl h
  ·simp only[ctxsT,List.mem_append] at h
   exact h
 | .skip,k,y,hy,x,hx=>by simp[ctxs] at hy
 | .exit _,k,y,hy,x,hx=>by simp[ctxs] at hy
 | .ret,k,y,hy,x,hx=>by simp[ctxs] at hy
 | .label _,k,y,hy,x,hx=>by simp[ctxs] at hy
 | .goto _,k,y,hy,x,hx=>by simp[ctxs] at hy
 | .rangeFunc g ps a b,k,y,hy,x,hx=>by
  simp only[ctxs,List.mem_cons,List.not_mem_nil,or_false] at hy
  subst hy
  simpa[ctxsT,ctxs] using hx
 | .refuse _,k,y,hy,x,hx=>by simp[ctxs] at hy
def fnOk(P:Program)(f:FuncId):Bool:=match P.funcs[f]? with
 | some fn=>(match fn.body with|some c=>okBody fn.ntmps c|.none=>false)&&!(fn.name == "runtime.NumGoroutine")
 | .none=>false
section
variable {E:Env U} {K:A U->List (AObj U)->Prop} {T:Tab U} {C:Cut U} {f:FuncId}
theorem fnOk_spec(h:fnOk E.P f=true):∃ fn c,E.P.funcs[f]?=some fn/\fn.body=some c/\okBody fn.ntmps c=true/\(fn.name == "runtime.NumGoroutine")=false:=by
 unfold fnOk at h
 cases hf:E.P.funcs[f]? with
 | none=>rw[hf] at h;simp at h
 | some fn=>
  rw[hf] at h
  simp only[Bool.and_eq_true,Bool.not_eq_true'] at h
  cases hb:fn.body with
  | none=>rw[hb] at h;simp at h
  | some c=>rw[hb] at h;exact⟨fn,c,rfl,hb,h.1,h.2⟩
theorem rvs_nth{w:World}{St:Ck U->Nat->Prop}{ι:Nat->Option Value}:∀ {args:List (A U)} {vs:List Value} (d:Nat),RVs E w St ι args vs->nth args d=.none\/∃ v,vs[d]?=some v/\RV E w St ι (nth args d) v
 | [],vs,d,h=>.inl (by simp[nth])
 | a::l,[],d,h=>h.elim
 | a::l,v::vs,0,h=>by
  rcases h.1 with h|h
  ·exact .inl h
  ·exact .inr ⟨v,rfl,h⟩
 | a::l,v::vs,d+1,h=>by
  rcases rvs_nth d h.2 with h|⟨u,h1,h2⟩
  ·exact .inl h
  ·exact .inr ⟨u,by simpa using h1,h2⟩
theorem vproc_sound(ok:EnvOk2 E)(TS:TSound E T)(CS:CSound E C)(hm:E.P.follows .mixedOrders=true)(hf:fnOk E.P f=true){args:List (A U)}{objs:List (AObj U)}(hv:vfunc E T C f args objs K) :
  ∀ (w:World) (St:Ck U->Nat->Prop) (ι:Nat->Option Value) (vs:Array Value),RVs E w St ι args vs.toList->HeapR E (nthO objs) w ι St->(∀ m,objs.length<=m->ι m=none)->Plain E f (OwnH (nthO objs) ι) →
   Calls E.P f vs w (RetPost E f w St (OwnH (nthO objs) ι) objs.length ι K):=by
 obtain⟨fn,c,h1,h2,h3,h4⟩:=fnOk_spec hf
 intro w St ι vs hvs hH hout hpl
 unfold vfunc at hv
 have e1:resOf E.P f=fn.results:=by unfold resOf;rw[h1]
 have e2:bodyOf E.P f=c:=by unfold bodyOf;rw[h1];simp only[h2]
 rw[e1,e2] at hv
 let a:Act:={ tmps:=vs++Array.replicate (fn.ntmps-vs.size) undef,defers:=[] }
 let b:Frame:={ (default:Frame) with fn:=f,kind:=.normal,roundOf:=.none }
 have henter:Frame.enter E.P f vs .normal=b.atR a [.code c]:=by
  simp[Frame.enter,Frame.atR,h1,h2,a,b]
 have hN:fn.ntmps<=a.tmps.size:=by simp only[a,Array.size_append,Array.size_replicate];omega
 have I:Inv E a.tmps.size w St (OwnH (nthO objs) ι) (objs.length,ι,[]) (S.enter args objs) a.tmps w ι St:=by
  refine⟨⟨rfl,fun d=>?_,hH.obj,hH.dis,hH.stb,hH.apt,hH.sup⟩,Fr.refl _ _,fun B hB=>.inl hB,fun g B h=>.inl h,fun n hn=>rfl,Nat.le_refl _,rfl,fun x hx=>(by cases hx),.nil,fun _ _ _ h=>h⟩
  show RT E w St ι (nth args d) _
  rcases rvs_nth d hvs with h|⟨v,e,h⟩
  ·rw[h];exact trivial
  ·have:a.tmps.getD d undef=v:=by
    simp only[a]
    rw[Array.getD_eq_getD_getElem?,Array.getElem?_append_left]
    ·rw[<-Array.getElem?_toList,e];rfl
    ·have:=(List.getElem?_eq_some_iff.1 e).1;simpa using this
   rw[this]
   exact RT.of_rv h
 have:=vgo_sound (rnd:=none) ok TS CS hm h1 h2 h3 hN (fun _=>hpl) fuel false [.code c] (S.enter args objs) b a w ι St [] hv (fun x hx=>by simpa[ctxsT,placesOf] using hx) rfl rfl ⟨rfl,rfl,fun x hx=>by cases hx⟩ I hout
 intro cs
 obtain⟨e,w',fr,q1,q2,q3,q4⟩:=this.1 rfl cs
 rw[<-henter] at q2
 exact⟨e,w',fr,q1,q2,q3,q4⟩
theorem vfunc_sound(ok:EnvOk2 E)(TS:TSound E T)(CS:CSound E C)(hm:E.P.follows .mixedOrders=true)(hf:fnOk E.P f=true){args:List (A U)}{objs:List (AObj U)}(hv:vfunc E T C f args objs K):Nat.blt f 1000000=true->(memN f E.procs=false->objs=[]->FnSound E f args K)/\(memN f E.procs=true->ProcSound E f args objs K):=by
 obtain⟨fn,c,h1,h2,h3,h4⟩:=fnOk_spec hf
 refine fun _=>⟨fun hp ho=>⟨⟨fn,h1,by rw[h2];rfl,h4⟩,fun w St vs hvs hlt hsup=>?_⟩,fun hp=>⟨⟨fn,h1,by rw[h2];rfl,h4⟩,fun w St ι vs hvs hH hout=>?_⟩⟩
 ·subst ho
  have hH:HeapR E (nthO ([]:List (AObj U))) w noNm St:=⟨fun n=>by show RO E w St noNm (nthO [] n) _;exact trivial,fun n m B hn=>by simp[nthO,isLive] at hn,hlt,fun n B hn=>by simp[nthO,isLive] at hn,hsup⟩
  refine (vproc_sound ok TS CS hm hf hv w St noNm vs hvs hH (fun _ _=>rfl) (fun _ B ⟨n,hn,_⟩=>by simp[nthO,isLive] at hn)).mono fun e w' h=>?_
  rcases h with ⟨-,h⟩|⟨h,-⟩
  ·exact h
  ·rw[hp] at h;cases h
 ·refine (vproc_sound ok TS CS hm hf hv w St ι vs hvs hH hout (fun h=>by rw[hp] at h;cases h)).mono fun e w' h=>?_
  rcases h with ⟨h,-⟩|⟨-,h⟩
  ·rw[hp] at h;cases h
  ·exact h
theorem ctxOf_or(id:Nat):∀ l:List (Nat×List Item),ctxOf id l=[]\/(id,ctxOf id l)∈l:=by
 intro l
 induction l with
 | nil=>exact .inl rfl
 | cons y l ih=>
  obtain⟨i,k⟩:=y
  simp only[ctxOf]
  cases hb:Nat.beq i id with
  | true=>rw[Nat.eq_of_beq_eq_true hb];exact .inr (by simp)
  | false=>
   rcases ih with h|h
   ·exact .inl (by simpa using h)
   ·exact .inr (List.mem_cons_of_mem _ (by simpa using h))
theorem places_ctx{c:Code}{id:Nat}(hn:((places c).map (·.1)).Nodup):∀ x∈ctxsT (ctxAll id c),x∈placesOf (inRd id c) c:=by
 intro x hx
 have hor:=ctxOf_or id (places c)
 have e:ctxAll id c=ctxOf id (places c):=rfl
 rw[e] at hx
 rcases hor with h|h
 ·rw[h] at hx;simp[ctxsT] at hx
 ·rcases List.mem_append.1 h with h|h
  ·rw[placesOf_rd (rd:=false) hn h]
   rcases ctxs_in c [] _ h x hx with h|h
   ·exact h
   ·simp[ctxsT] at h
  ·rw[placesOf_rd (rd:=true) hn h]
   obtain⟨p,q,h1,h2⟩:=roundC_of _ _ h
   refine roundC_in _ p q x h1 ?_
   rcases h2 with h2|h2
   ·rcases ctxs_in p _ _ h2 x hx with h|h
    ·exact .inl h
    ·simp only[ctxsT,List.mem_append,List.not_mem_nil,or_false] at h
     exact .inr h
   ·rcases ctxs_in q _ _ h2 x hx with h|h
    ·exact .inr h
    ·simp[ctxsT] at h
theorem vcut_sound(ok:EnvOk2 E)(TS:TSound E T)(CS:CSound E C)(hm:E.P.follows .mixedOrders=true)(hf:fnOk E.P f=true){id:Nat}{live:List Nat}{nb:Nat}{vals:List (A U)}{objs:List (AObj U)}(hv:vcut E T C f id live nb vals objs K):CutOk E f id live nb vals objs K:=by
 obtain⟨fn,c,h1,h2,h3,h4⟩:=fnOk_spec hf
 intro fn' N w0 St0 O0 nbi ιi H rnd b a w ι St g1 g2 g3 g4 grd gF hpl g6 g7
 rw[h1] at g1
 obtain rfl:=Option.some.inj g1
 unfold vcut at hv
 have e1:resOf E.P f=fn.results:=by unfold resOf;rw[h1]
 have e2:bodyOf E.P f=c:=by unfold bodyOf;rw[h1];simp only[h2]
 rw[grd,e1,e2] at hv
 rw[e2] at gF grd ⊢
 have hn:=h3
 unfold okBody at hn
 simp only[Bool.and_eq_true,fstN_eq,distinctN_iff] at hn
 exact vgo_sound ok TS CS hm h1 h2 h3 g2 hpl fuel true _ _ b a w ι St H hv (fun x hx=>by rw[<-grd];exact places_ctx hn.1 x hx) g3 g4 gF g6 g7
theorem vround_sound(ok:EnvOk2 E)(TS:TSound E T)(CS:CSound E C)(hm:E.P.follows .mixedOrders=true)(hf:fnOk E.P f=true){id:Nat}{args:List (A U)}{objs:List (AObj U)}(hv:vround E T C f id args objs K):RoundSound E f id args objs K:=by
 obtain⟨fn,c,h1,h2,h3,h4⟩:=fnOk_spec hf
 have e1:resOf E.P f=fn.results:=by unfold resOf;rw[h1]
 have e2:bodyOf E.P f=c:=by unfold bodyOf;rw[h1];simp only[h2]
 have hn:=h3
 unfold okBody at hn
 simp only[Bool.and_eq_true,fstN_eq,distinctN_iff] at hn
 unfold vround at hv
 rw[e1,e2] at hv
 split at hv
 rotate_left
 ·exact hv.elim
 rename_i g ps p q k live hctx hlive
 cases hb:(Nat.beq args.length (ps.toList.length+live.length)&&distinctN (ps.toList++live)) with
 | false=>rw[hb] at hv;exact hv.elim
 | true=>
 rw[hb] at hv
 simp only[cond_true] at hv
 simp only[Bool.and_eq_true,distinctN_iff] at hb
 have hlen:=Nat.eq_of_beq_eq_true hb.1
 have hmem:(1000000+id,.code (.rangeFunc g ps p q)::k)∈places c:=by
  have e:ctxAll (1000000+id) c=ctxOf (1000000+id) (places c):=rfl
  rcases ctxOf_or (1000000+id) (places c) with h|h
  ·rw[<-e,hctx] at h;cases h
  ·rwa [<-e,hctx] at h
 have hrow:=okRows_iff hn.2 _ hmem
 simp only[okRow,Bool.and_eq_true,List.all_eq_true,Nat.blt_eq] at hrow
 have same:∀ live' L,LoopIs E f id live' L->live'=live/\L.params=ps/\L.assign=p/\L.body=q/\L.fn=f/\fn.ntmps<=L.tmps.size:=by
  rintro live' L ⟨⟨l1,l2⟩,⟨g',k',l3⟩,fn',l4,l5⟩
  rw[hlive] at l1
  rw[e2,hctx] at l3
  rw[h1] at l4
  obtain rfl:=Option.some.inj l4
  simp only[List.cons.injEq,Item.code.injEq,Code.rangeFunc.injEq] at l3
  obtain⟨⟨-,l6,l7,l8⟩,-⟩:=l3
  exact⟨(Option.some.inj l1).symm,l6.symm,l7.symm,l8.symm,l2,l5⟩
 refine⟨fun live' L hL=>?_,fun ro w St ι l live' L tm hL htm hvs hH hout hheap hst hno hnst=>?_⟩
 ·obtain⟨rfl,l6,l7,l8,l9,l10⟩:=same live' L hL
  rw[l6]
  exact⟨by rw[hlen];simp,hb.2,fun p hp=>Nat.lt_of_lt_of_le (hrow.2 p hp) l10⟩
 ·obtain⟨rfl,l6,l7,l8,l9,l10⟩:=same live' L hL
  let a:Act:={ tmps:=tm,defers:=[] }
  let b:Frame:={ (default:Frame) with fn:=f,kind:=.normal,roundOf:=some l }
  have henter:Frame.round l f tm L.assign L.body .normal=b.atR a (roundT p q):=by
   rw[l7,l8]
   simp[Frame.round,Frame.atR,roundT,a,b]
  have hLr:({ L with state:=if hasBegin (roundT p q) then .ready else .busy }:Loop)=L:=by
   have:hasBegin (roundT p q)=true:=rfl
   rw[this,if_pos rfl,<-hst]
  have I:Inv E tm.size w St (fun B=>OwnH (nthO objs) ι B\/B=l) (objs.length,ι,[(l,.loop L)]) (S.ofLay (ps.toList++live') objs.length args objs) a.tmps w ι St:=by
   rw[l6] at hvs
   refine⟨⟨rfl,fun d=>hvs.holds'.pairUp d,hH.obj,hH.dis,hH.stb,hH.apt,hH.sup⟩,Fr.refl _ _,fun B hB=>.inl (.inl hB),fun g B h=>.inl h,fun n hn=>rfl,Nat.le_refl _,rfl,fun x hx=>?_,by simp,fun _ _ _ h=>h⟩
   simp only[List.mem_cons,List.not_mem_nil,or_false] at hx
   subst hx
   exact⟨hheap,hno,hnst,.inl (.inr rfl)⟩
  have:=vgo_sound (rnd:=some (l,L)) ok TS CS hm h1 h2 h3 (by rw[htm];exact l10) (fun h=>by cases h) fuel false (roundT p q) _ b a w ι St [(l,.loop L)] hv (roundT_places (places_rnds hmem rfl)) rfl rfl ⟨rfl,rfl,by rw[hLr]⟩ I hout
  refine⟨trivial,fun c' cs _=>?_⟩
  obtain⟨v,w',q1,q2⟩:=this.2 (by simp[b]) c' cs
  rw[<-henter] at q2
  exact⟨.returned v,w',q1,stepsIn_wide.2 q2⟩
theorem RowSound.of_fn(hf:Nat.blt f 1000000=true){args:List (A U)}{objs:List (AObj U)}(h:Nat.blt f 1000000=true->(memN f E.procs=false->objs=[]->FnSound E f args K)/\(memN f E.procs=true->ProcSound E f args objs K)):RowSound E f args objs K:=by
 refine⟨h,fun g id _ e=>?_⟩
 rw[Nat.blt_eq] at hf
 have e':@Eq Nat f (1000000*(g+1)+id):=e
 have hf':@LT.lt Nat _ f 1000000:=hf
 omega
theorem RowSound.of_round{g id:Nat}(hid:Nat.blt id 1000000=true){args:List (A U)}{objs:List (AObj U)}(h:RoundSound E g id args objs K):RowSound E (ykey g id) args objs K:=by
 rw[Nat.blt_eq] at hid
 refine⟨fun h=>?_,fun g' id' hi e=>?_⟩
 ·rw[Nat.blt_eq] at h
  have h':1000000*(g+1)+id<1000000:=h
  omega
 ·rw[Nat.blt_eq] at hi
  have e':@Eq Nat (1000000*(g+1)+id) (1000000*(g'+1)+id'):=e
  obtain rfl:@Eq Nat g g':=by omega
  obtain rfl:@Eq Nat id id':=by omega
  exact h
theorem tables(ok:EnvOk2 E)(hm:E.P.follows .mixedOrders=true){T:Nat->Tab U}{C:Nat->Cut U}(hT0:∀ f args objs K,¬T 0 f args objs K)(hC0:∀ f id nb vals objs K,¬C 0 f id nb vals objs K)
  (hT:∀ k f args objs K,T (k+1) f args objs K->(fnOk E.P f=true/\Nat.blt f 1000000=true/\vfunc E (T k) (C k) f args objs K)\/(∃ g id,f=ykey g id/\fnOk E.P g=true/\Nat.blt id 1000000=true/\vround E (T k) (C k) g id args objs K)\/(TSound E (T k)->RowSound E f args objs K))
  (hC:∀ k f id live nb vals objs K,cutOf f id E.cuts=some live->C (k+1) f id nb vals objs K->fnOk E.P f=true/\vcut E (T k) (C k) f id live nb vals objs K) :
  ∀ k,TSound E (T k)/\CSound E (C k)
 | 0=>⟨fun f args objs K h=>absurd h (hT0 f args objs K),fun f id live nb vals objs K _ h=>absurd h (hC0 f id nb vals objs K)⟩
 | k+1=>by
  obtain⟨h1,h2⟩:=tables ok hm hT0 hC0 hT hC k
  refine⟨fun f args objs K h=>?_,fun f id live nb vals objs K hc h=>?_⟩
  ·rcases hT k f args objs K h with ⟨g1,g2,g3⟩|⟨g,id,rfl,g1,g2,g3⟩|h
   ·exact RowSound.of_fn g2 (vfunc_sound ok h1 h2 hm g1 g3)
   ·exact RowSound.of_round g2 (vround_sound ok h1 h2 hm g1 g3)
   ·exact h h1
  ·obtain⟨g1,g2⟩:=hC k f id live nb vals objs K hc h
   exact vcut_sound ok h1 h2 hm g1 g2
end
end Go.V

set_option linter.unusedVariables false
set_option linter.unusedSimpArgs false
namespace Go.V
variable {U:Nat->Type}
def zcells(E:Env U):(fuel:Nat)->List (A U)->List Value->Option (List Value)
 | 0,_,_=>.none
 | n+1,l,cs=>match l with
  | []=>some cs
  | .int k x::l=>match cs with
   | .int k' y::cs=>cond (decide (k=k')&&decide (x=y)) (zcells E n l cs) .none
   | _=>.none
  | .bool x::l=>match cs with
   | .bool y::cs=>cond (x==y) (zcells E n l cs) .none
   | _=>.none
  | .str x::l=>match cs with
   | .string y::cs=>cond (decide (x=y)) (zcells E n l cs) .none
   | _=>.none
  | .nilp::l=>match cs with
   | .pointer .none::cs=>zcells E n l cs
   | _=>.none
  | .tr c .nil []::l=>match cs with
   | .pointer .none::cs=>zcells E n l cs
   | _=>.none
  | .iv .nil::l=>match cs with
   | .nilIface::cs=>zcells E n l cs
   | _=>.none
  | .nilf::l=>match cs with
   | .nilFunc::cs=>zcells E n l cs
   | _=>.none
  | .nils c::l=>match cs with
   | .slice .none 0 0::cs=>zcells E n l cs
   | _=>.none
  | .ro b c []::l=>match cs with
   | .slice a 0 _::cs=>zcells E n l cs
   | _=>.none
  | .agg m::l=>match zcells E n m cs with
   | some cs=>zcells E n l cs
   | .none=>.none
  | .arr c k xs::l=>cond (Nat.beq xs.length k) (match zcells E n (xs.map (E.enc c)) cs with
   | some cs=>zcells E n l cs
   | .none=>.none) .none
  | _=>.none
theorem zcells_ok{E:Env U}{w:World}{St:Ck U->Nat->Prop}{ι:Nat->Option Value}:∀ (n:Nat) (l:List (A U)) (cs r:List Value),zcells E n l cs=some r->∃ c1,cs=c1++r/\RC E w St ι l c1 []
 | 0,l,cs,r,h=>by simp[zcells] at h
 | n+1,l,cs,r,h=>by
  have ih:=zcells_ok (E:=E) (w:=w) (St:=St) (ι:=ι) n
  have one:∀ (a:A U) (l:List (A U)) (v:Value) (cs:List Value),(∀ {l cs},RC E w St ι l cs []->RC E w St ι (a::l) (v::cs) [])->zcells E n l cs=some r->∃ c1,v::cs=c1++r/\RC E w St ι (a::l) c1 []:=by
   intro a l v cs hc h
   obtain⟨c1,rfl,h1⟩:=ih l cs r h
   exact⟨v::c1,rfl,hc h1⟩
  cases l with
  | nil=>simp only[zcells,Option.some.injEq] at h;exact⟨[],h,.nil⟩
  | cons a l=>
   cases a with
   | int k x=>
    simp only[zcells] at h
    split at h
    ·rename_i k' y cs
     cases hb:(decide (k=k')&&decide (x=y)) with
     | false=>rw[hb] at h;simp at h
     | true=>
      rw[hb] at h
      simp only[Bool.and_eq_true,decide_eq_true_eq] at hb
      obtain⟨rfl,rfl⟩:=hb
      exact one _ _ _ _ .int h
    ·simp at h
   | bool x=>
    simp only[zcells] at h
    split at h
    ·rename_i y cs
     cases hb:(x==y) with
     | false=>rw[hb] at h;simp at h
     | true=>rw[hb] at h;rw[<-eq_of_beq hb];exact one _ _ _ _ .bool h
    ·simp at h
   | str x=>
    simp only[zcells] at h
    split at h
    ·rename_i y cs
     cases hb:(decide (x=y)) with
     | false=>rw[hb] at h;simp at h
     | true=>rw[hb] at h;rw[<-of_decide_eq_true hb];exact one _ _ _ _ .str h
    ·simp at h
   | nilp=>simp only[zcells] at h;split at h;exact one _ _ _ _ .nilp h;simp at h
   | tr c z p=>
    cases z with
    | node _ _ _ _=>simp[zcells] at h
    | nil=>
     cases p with
     | cons _ _=>simp[zcells] at h
     | nil=>
      simp only[zcells] at h
      split at h
      ·exact one _ _ _ _ (fun h=>.tr (.inl ⟨rfl,rfl,rfl⟩) h) h
      ·simp at h
   | iv z=>
    cases z with
    | nil=>simp only[zcells] at h;split at h;exact one _ _ _ _ (.iv (x:=.nil) rfl) h;simp at h
    | _=>simp[zcells] at h
   | nilf=>simp only[zcells] at h;split at h;exact one _ _ _ _ .nilf h;simp at h
   | nils c=>simp only[zcells] at h;split at h;exact one _ _ _ _ .nils h;simp at h
   | ro b c xs=>
    cases xs with
    | nil=>simp only[zcells] at h;split at h;exact one _ _ _ _ .roE h;simp at h
    | cons _ _=>simp[zcells] at h
   | agg m=>
    simp only[zcells] at h
    cases hm:zcells E n m cs with
    | none=>rw[hm] at h;simp at h
    | some cs'=>
     rw[hm] at h
     obtain⟨c1,rfl,h1⟩:=ih m cs cs' hm
     obtain⟨c2,rfl,h2⟩:=ih l cs' r h
     exact⟨c1++c2,by simp,by simpa using RC.agg h1 h2⟩
   | arr c k xs=>
    simp only[zcells] at h
    cases hb:Nat.beq xs.length k with
    | false=>rw[hb] at h;simp at h
    | true=>
     rw[hb] at h
     simp only[cond_true] at h
     cases hm:zcells E n (xs.map (E.enc c)) cs with
     | none=>rw[hm] at h;simp at h
     | some cs'=>
      rw[hm] at h
      obtain⟨c1,rfl,h1⟩:=ih _ cs cs' hm
      obtain⟨c2,rfl,h2⟩:=ih l cs' r h
      exact⟨c1++c2,by simp,by simpa using RC.arr (Nat.eq_of_beq_eq_true hb) h1 h2⟩
   | _=>simp[zcells] at h
def fieldsB:List Field->List (TypeId×Nat)->Bool
 | [],[]=>true
 | f::l,x::m=>Nat.beq f.type x.1&&(Nat.beq f.offset x.2&&fieldsB l m)
 | _,_=>false
theorem fieldsB_eq:∀ {l:List Field} {m:List (TypeId×Nat)},fieldsB l m=true->m=l.map fun f=>(f.type,f.offset)
 | [],[],_=>rfl
 | [],_::_,h=>by simp[fieldsB] at h
 | _::_,[],h=>by simp[fieldsB] at h
 | f::l,x::m,h=>by
  simp only[fieldsB,Bool.and_eq_true] at h
  rw[fieldsB_eq h.2.2,List.map_cons,Nat.eq_of_beq_eq_true h.1,Nat.eq_of_beq_eq_true h.2.1]
def tyB(P:Program)(t:TypeId):Ty->Bool
 | .no=>false
 | .int k=>match P.underlying t with|some (.int k')=>decide (k'=k)|_=>false
 | .ifc=>match P.underlying t with|some (.interface _)=>true|_=>false
 | .bool=>match P.underlying t with|some .bool=>true|_=>false
 | .str=>match P.underlying t with|some .string=>true|_=>false
 | .ptr e=>match P.underlying t with|some (.pointer e')=>Nat.beq e' e|_=>false
 | .func=>true
 | .sl e=>match P.underlying t with|some (.slice e')=>Nat.beq e' e|_=>false
 | .arr n e=>match P.underlying t with|some (.array n' e')=>Nat.beq n' n&&Nat.beq e' e|_=>false
 | .st fs=>match P.underlying t with|some (.struct fields)=>fieldsB fields.toList fs|_=>false
theorem tyB_ok{P:Program}{t:TypeId}{y:Ty}(h:tyB P t y=true):tyOk P t y:=by
 cases y<;>simp only[tyB] at h<;>first|(simp at h;done)|skip
 case int k=>split at h;rename_i k' e;simp only[decide_eq_true_eq] at h;subst h;exact e;simp at h
 case ifc=>split at h;rename_i ms he;exact⟨ms,he⟩;simp at h
 case bool=>split at h;assumption;simp at h
 case str=>split at h;assumption;simp at h
 case ptr e=>split at h;rename_i e' he;rw[Nat.eq_of_beq_eq_true h] at he;exact he;simp at h
 case func=>trivial
 case sl e=>split at h;rename_i e' he;rw[Nat.eq_of_beq_eq_true h] at he;exact he;simp at h
 case arr n e=>split at h;rename_i n' e' he;simp only[Bool.and_eq_true] at h;rw[Nat.eq_of_beq_eq_true h.1,Nat.eq_of_beq_eq_true h.2] at he;exact he;simp at h
 case st fs=>split at h;rename_i fields he;exact⟨fields,he,fieldsB_eq h⟩;simp at h
def zeroB(E:Env U)(z:Value)(a:A U):Bool:=match zcells E 1000 [a] z.cells.toList with
 | some []=>isAggV z==isAgg a
 | _=>false
theorem zeroB_ok{E:Env U}{w:World}{St:Ck U->Nat->Prop}{ι:Nat->Option Value}{z:Value}{a:A U}(h:zeroB E z a=true):RV E w St ι a z:=by
 unfold zeroB at h
 split at h
 ·rename_i hz
  obtain⟨c1,e,h1⟩:=zcells_ok (w:=w) (St:=St) (ι:=ι) _ _ _ _ hz
  rw[List.append_nil] at e
  subst e
  exact⟨h1,eq_of_beq h⟩
 ·simp at h
def rowB(E:Env U)(r:Row):Bool:=tyB E.P r.t r.ty &&
 (match E.P.info? r.t with
  | some i=>(Nat.beq i.size r.sz&&Nat.beq i.bytes r.by')&&(match i.zero with
   | some z=>(cond (known (zero E r.t)) (zeroB E z (zero E r.t)) true)&&(zeroB E z (E.enc r.t (E.dflt r.t))&&Nat.beq z.cells.size r.sz)
   | .none=>false)
  | .none=>false) &&
 (match E.P.underlying r.t with|some d=>d.isRow==rowTy r.ty|.none=>false)
def rowsB(E:Env U):List Row->Bool
 | []=>true
 | r::l=>rowB E r&&rowsB E l
theorem rowOf_mem{t:TypeId}:∀ {l:List Row} {r:Row},rowOf t l=some r->r∈l/\r.t=t
 | [],r,h=>by simp[rowOf] at h
 | x::l,r,h=>by
  simp only[rowOf] at h
  cases hb:Nat.beq x.t t with
  | true=>rw[hb] at h;simp only[cond_true,Option.some.injEq] at h;subst h;exact⟨by simp,Nat.eq_of_beq_eq_true hb⟩
  | false=>rw[hb] at h;obtain⟨h1,h2⟩:=rowOf_mem (l:=l) h;exact⟨by simp[h1],h2⟩
theorem rowsB_mem{E:Env U}:∀ {l:List Row},rowsB E l=true->∀ r∈l,rowB E r=true
 | [],h,r,hr=>by cases hr
 | x::l,h,r,hr=>by
  simp only[rowsB,Bool.and_eq_true] at h
  rcases List.mem_cons.1 hr with rfl|hr
  ·exact h.1
  ·exact rowsB_mem h.2 r hr
def PlainOk(E:Env U)(c:Nat):Prop:=(∀ l m:List (U c),E.eqb c l m=true↔l=m)/\∀ x y:U c,∃ r,eqV E 1 c (E.enc c x) (E.enc c y)=some r/\(r=true↔x=y)
abbrev decI(x y:Int):Bool:=decide (x=y)
abbrev decB(x y:Bool):Bool:=x==y
abbrev eqLI(x y:List Int):Bool:=decide (x=y)
abbrev eqLB(x y:List Bool):Bool:=decide (x=y)
abbrev eqLS(x y:List ByteArray):Bool:=decide (x=y)
theorem decI_iff(x y:Int):decI x y=true↔x=y:=decide_eq_true_iff
theorem decB_iff(x y:Bool):decB x y=true↔x=y:=beq_iff_eq
theorem eqLI_iff(x y:List Int):eqLI x y=true↔x=y:=decide_eq_true_iff
theorem eqLB_iff(x y:List Bool):eqLB x y=true↔x=y:=decide_eq_true_iff
theorem eqLS_iff(x y:List ByteArray):eqLS x y=true↔x=y:=decide_eq_true_iff
theorem seq_iff{x y:ByteArray}:seq x y=true↔x=y:=decide_eq_true_iff
theorem eqA_of{E:Env U}(h:∀ r∈E.tys,plainTy r.ty=true->PlainOk E r.t):∀ c,plainTy (E.ty c)=true->PlainOk E c:=by
 intro c hc
 unfold Env.ty at hc
 cases hr':rowOf c E.tys with
 | none=>rw[hr'] at hc;simp[plainTy] at hc
 | some r=>
  rw[hr'] at hc
  obtain⟨h1,h2⟩:=rowOf_mem hr'
  rw[<-h2]
  exact h r h1 hc
structure EnvX (E:Env U):Prop where
 glob:∀ g,loan (E.glob g)=false/\noTupG (E.glob g)=true
 eqA:∀ c,plainTy (E.ty c)=true->PlainOk E c
 eqT:eqsOk E.P E.eqs=true
 toB:∀ c l t,E.toBytes c l=some t->E.ty c=.int .u8/\∃ ns:List Int,l.map (E.enc c)=ns.map (.int .u8)/\t=bytesOf ns
 ofB:∀ c t l,E.ofBytes c t=some l->E.ty c=.int .u8/\l.map (E.enc c)=(bytesTo t).map (.int .u8)
theorem envOk_of(E:Env U)(hb:EnvOk E)(hr:rowsB E E.tys=true)(hm:E.P.follows .mixedOrders=true)(hx:EnvX E):EnvOk2 E:=by
 have row:∀ t,E.ty t≠.no->∃ r,E.ty t=r.ty/\E.sz t=r.sz/\E.by' t=r.by'/\r.t=t/\rowB E r=true:=by
  intro t h
  unfold Env.ty at h
  cases hr':rowOf t E.tys with
  | none=>rw[hr'] at h;exact absurd rfl h
  | some r=>
   obtain⟨h1,h2⟩:=rowOf_mem hr'
   exact⟨r,by unfold Env.ty;rw[hr'],by unfold Env.sz;rw[hr'],by unfold Env.by';rw[hr'],h2,rowsB_mem hr r h1⟩
 have all:∀ t,E.ty t≠.no->tyOk E.P t (E.ty t)/\(∃ i z,E.P.info? t=some i/\i.size=E.sz t/\i.bytes=E.by' t/\i.zero=some z/\(known (zero E t)=true->zeroB E z (zero E t)=true)/\zeroB E z (E.enc t (E.dflt t))=true/\z.cells.size=E.sz t) ∧
   (∃ d,E.P.underlying t=some d/\d.isRow=rowTy (E.ty t)):=by
  intro t h
  obtain⟨r,h1,h2,h3,rfl,h4⟩:=row t h
  unfold rowB at h4
  simp only[Bool.and_eq_true] at h4
  obtain⟨⟨q1,q2⟩,q3⟩:=h4
  rw[h1,h2,h3]
  refine⟨tyB_ok q1,?_,?_⟩
  ·cases hi:E.P.info? r.t with
   | none=>rw[hi] at q2;simp at q2
   | some i=>
    rw[hi] at q2
    simp only[Bool.and_eq_true] at q2
    cases hz:i.zero with
    | none=>rw[hz] at q2;simp at q2
    | some z=>
     rw[hz] at q2
     simp only[Bool.and_eq_true] at q2
     refine⟨i,z,rfl,Nat.eq_of_beq_eq_true q2.1.1,Nat.eq_of_beq_eq_true q2.1.2,hz,fun hk=>?_,q2.2.2.1,Nat.eq_of_beq_eq_true q2.2.2.2⟩
     have:=q2.2.1
     rw[hk] at this
     exact this
  ·cases hd:E.P.underlying r.t with
   | none=>rw[hd] at q3;simp at q3
   | some d=>rw[hd] at q3;exact⟨d,rfl,eq_of_beq q3⟩
 have no:∀ t,E.ty t=.no->zero E t=.none:=fun t h=>by unfold zero zeroA;rw[h]
 refine { toEnvOk:=hb,under:=fun t=>?_,info:=fun t h=>?_,agg:=fun t h=>(all t h).2.2,zer:=fun t h=>?_,dfl:=fun c h=>?_,mixed:=hm,glob:=hx.glob,eqA:=hx.eqA,eqT:=hx.eqT,toB:=hx.toB,ofB:=hx.ofB }
 ·by_cases h:E.ty t=.no
  ·rw[h];trivial
  ·exact (all t h).1
 ·obtain⟨i,z,h1,h2,h3,-⟩:=(all t h).2.1
  exact⟨i,h1,h2,h3⟩
 ·by_cases hn:E.ty t=.no
  ·rw[no t hn] at h;simp[known] at h
  ·obtain⟨i,z,h1,h2,h3,h4,h5,-⟩:=(all t hn).2.1
   exact⟨i,z,h1,h4,fun w St ι=>zeroB_ok (h5 h)⟩
 ·obtain⟨i,z,h1,h2,h3,h4,h5,h6,h7⟩:=(all c h).2.1
  exact⟨i,z,h1,h4,h7,fun w St ι=>(zeroB_ok h6).1⟩
end Go.V

set_option linter.unusedVariables false
namespace Go.V
variable {U:Nat->Type}
theorem rowOf_none{c:Nat}:∀ {l:List Row},(∀ r∈l,r.t≠c)->rowOf c l=.none
 | [],_=>rfl
 | r::l,h=>by
  have h1:Nat.beq r.t c=false:=by
   cases hb:Nat.beq r.t c with
   | false=>rfl
   | true=>exact absurd (Nat.eq_of_beq_eq_true hb) (h r (by simp))
  simp only[rowOf,h1,cond_false]
  exact rowOf_none fun x hx=>h x (by simp[hx])
structure Hold (p:Prop):Prop where
 out:p
theorem Hold.mp{p q:Prop}(e:p=q)(h:p):Hold q:=⟨e▸h⟩
inductive RowOk (E:Env U) (T:Tab U) (C:Cut U) (f:Nat) (args:List (A U)) (objs:List (AObj U)) (K:A U->List (AObj U)->Prop):Prop where
 | fn:fnOk E.P f=true->Nat.blt f 1000000=true->Hold (vfunc E T C f args objs K)->RowOk E T C f args objs K
 | round (g id:Nat):f=ykey g id->fnOk E.P g=true->Nat.blt id 1000000=true->Hold (vround E T C g id args objs K)->RowOk E T C f args objs K
 | row:(TSound E T->RowSound E f args objs K)->RowOk E T C f args objs K
end Go.V
