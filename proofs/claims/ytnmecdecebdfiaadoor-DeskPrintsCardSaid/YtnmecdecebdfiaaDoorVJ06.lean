/- V: VCall3, VYield -/
import Derived.Test.YtnmecdecebdfiaaDoorVJ05
import Derived.Conc.MuLone
import Derived.CallsIn
import Derived.OrdersIn
import Derived.RangeFuncRecord
set_option linter.unusedVariables false
set_option linter.unusedSimpArgs false
namespace Go.V
variable {U:Nat->Type}
section
variable {E:Env U} {w:World} {St:Ck U->Nat->Prop} {ι:Nat->Option Value} {s:S U} {N:Nat} {a:Act} {b:Nat} {o:Oper}
theorem RVs.of_flat(ok:EnvOk E):∀ {l:List (A U)} {vs:List Value},RC E w St ι l ((vs.map (·.cells.toList)).flatten) []->vs.map (fun v=>(v.cells.size,isAggV v))=l.map (fun a=>(size E.sz a,isAgg a))->RVs E w St ι l vs
 | [],vs,h,hs=>by cases vs with|nil=>trivial|cons v vs=>simp at hs
 | q::l,vs,h,hs=>by
  cases vs with
  | nil=>simp at hs
  | cons v vs=>
   simp only[List.map_cons,List.cons.injEq,Prod.mk.injEq] at hs
   obtain⟨c1,c2,b1,b2,hc,hb,h1,h2⟩:=RC.cons_inv h
   obtain⟨rfl,rfl⟩:=nil_or hb
   simp only[List.map_cons,List.flatten_cons] at hc
   have hl:=h1.length ok
   simp only[sizes,Nat.add_zero] at hl
   have:=List.append_inj hc (by rw[hl,<-hs.1.1];simp)
   obtain⟨rfl,rfl⟩:=this
   exact⟨.inr ⟨h1,hs.1.2⟩,RVs.of_flat ok h2 hs.2⟩
theorem RVb.flat(ok:EnvOk E):∀ {l:List (A U)} {vs:List Value} {bs:List Nat},RVb E w St l vs bs->RC E w St noNm l ((vs.map (·.cells.toList)).flatten) bs/\vs.map (fun v=>(v.cells.size,isAggV v))=l.map (fun a=>(size E.sz a,isAgg a))
 | [],[],bs,h=>by
  obtain rfl:bs=[]:=h
  exact⟨.nil,rfl⟩
 | [],_::_,bs,h=>h.elim
 | _::_,[],bs,h=>h.elim
 | q::l,v::vs,bs,h=>by
  obtain⟨b1,b2,rfl,h1,h2,h3⟩:=h
  obtain⟨i1,i2⟩:=RVb.flat ok h3
  have hl:=h1.length ok
  simp only[sizes,Nat.add_zero] at hl
  refine⟨by simpa using RC.cons h1 i1,?_⟩
  simp only[List.map_cons,i2,h2,List.cons.injEq,Prod.mk.injEq,and_true]
  simpa using hl
theorem RVs.append{l m:List (A U)}:∀ {vs us:List Value},RVs E w St ι l vs->RVs E w St ι m us->RVs E w St ι (l++m) (vs++us):=by
 induction l with
 | nil=>intro vs us h h';cases vs with|nil=>exact h'|cons _ _=>exact h.elim
 | cons q l ih=>intro vs us h h';cases vs with|nil=>exact h.elim|cons v vs=>exact⟨h.1,ih h.2 h'⟩
theorem RVs.ins(ok:EnvOk2 E){tm:Array Value}(R:Rel E s N tm w ι St)(L:List Nat):∀ {q:List (A U)} {vs:List Value},RVs E w St ι q vs->holes (inAs E s.h [] q)=false->ptrss q=[]->(∀ m∈ownss q,m∈L) →
  RVs E w (StC s St ι L) noNm (inAs E s.h [] q) vs
 | [],vs,h,hh,hp,hL=>by cases vs with|nil=>trivial|cons _ _=>exact h.elim
 | q::l,vs,h,hh,hp,hL=>by
  cases vs with
  | nil=>exact h.elim
  | cons v vs=>
   simp only[inAs,holes,Bool.or_eq_false_iff] at hh
   obtain⟨p1,p2⟩:=app_nil (by simpa[ptrss] using hp:ptrs q++ptrss l=[])
   refine⟨.inr ?_,RVs.ins ok R L h.2 hh.2 p2 (fun m hm=>hL m (by simp[ownss,hm]))⟩
   rcases h.1 with rfl|h1
   ·simp[inA,hole] at hh
   ·obtain⟨i1,i2,i3⟩:=inA_ok ok R L q h1.1 hh.1 p1 (fun m hm=>hL m (by simp[ownss,hm]))
    exact⟨i1,h1.2.trans i2.symm⟩
theorem args_rvs(ok:EnvOk2 E)(R:Rel E s N a.tmps w ι St):∀ (xs:List Operand) (ts:List TypeId),holes (inAs E s.h [] (evArgs E s xs ts))=false->RVs E w St ι (evArgs E s xs ts) (xs.map a.eval)
 | [],ts,h=>by cases ts<;>trivial
 | x::xs,[],h=>by
  simp only[evArgs,inAs,holes,Bool.or_eq_false_iff] at h
  refine⟨?_,args_rvs ok R xs [] h.2⟩
  have hx:=ev_ok ok R 0 x
  cases hk:known (s.ev E 0 x) with
  | true=>exact .inr (hx.rv hk)
  | false=>
   revert hk h
   cases s.ev E 0 x<;>simp[known,inA,hole]
 | x::xs,t::ts,h=>by
  simp only[evArgs,inAs,holes,Bool.or_eq_false_iff] at h
  refine⟨?_,args_rvs ok R xs ts h.2⟩
  have hx:=ev_ok ok R t x
  cases hk:known (s.ev E t x) with
  | true=>exact .inr (hx.rv hk)
  | false=>
   revert hk h
   cases s.ev E t x<;>simp[known,inA,hole]
theorem RC.lent(ok:EnvOk E){St':Ck U->Nat->Prop}{l:List (A U)}{cs:List Value}{bs:List Nat}(h:RC E w St ι l cs bs)(h0:∀ B,St (.on false) B->St' (.on false) B)(hk:∀ c x B,St (.kn c x) B->St' (.kn c x) B):(loans l=true->∀ B,St (.on true) B->St' (.on true) B)->RC E w St' ι l cs bs:=by
 have one:∀ (g:Bool) (l:List (A U)) (B:Nat),((g||loans l)=true->∀ B,St (.on true) B->St' (.on true) B)->St (.on g) B->St' (.on g) B:=by
  intro g l B hl hB
  cases g
  ·exact h0 B hB
  ·exact hl rfl B hB
 have rest:∀ (g:Bool) (l:List (A U)),((g||loans l)=true->∀ B,St (.on true) B->St' (.on true) B)->loans l=true->∀ B,St (.on true) B->St' (.on true) B:=fun g l h hl=>h (by rw[hl,Bool.or_true])
 induction h with
 | nil=>intro _;exact .nil
 | int _ ih=>intro hl;exact .int (ih hl)
 | bool _ ih=>intro hl;exact .bool (ih hl)
 | str _ ih=>intro hl;exact .str (ih hl)
 | nilp _ ih=>intro hl;exact .nilp (ih hl)
 | nilf _ ih=>intro hl;exact .nilf (ih hl)
 | nils _ ih=>intro hl;exact .nils (ih hl)
 | agg _ _ ih1 ih2=>intro hl;exact .agg (ih1 fun h=>hl (by simp[loans,loan,h])) (ih2 fun h=>hl (by simp[loans,loan,h]))
 | arr hn h1 _ _ ih2=>intro hl;exact .arr hn (h1.encs ok h0) (ih2 hl)
 | roE _ ih=>intro hl;exact .roE (ih (rest _ _ hl))
 | ro h1 h2 h3 h4 _ _ ih=>intro hl;exact .ro (h1.encs ok h0) h2 (one _ _ _ hl h3) h4 (ih (rest _ _ hl))
 | clipE _ ih=>intro hl;exact .clipE (ih (rest _ _ hl))
 | clip h1 h2 h3 _ _ ih=>intro hl;exact .clip (h1.encs ok h0) h2 (one _ _ _ hl h3) (ih (rest _ _ hl))
 | uslE _ ih=>intro hl;exact .uslE (ih hl)
 | usl h1 h2 h3 h4 h5 _ _ ih=>intro hl;exact .usl (h1.encs ok h0) h2 h3 h4 h5 (ih hl)
 | own h1 _ ih=>intro hl;exact .own h1 (ih hl)
 | sub h1 h2 h3 h4 h5 _ ih=>intro hl;exact .sub h1 h2 h3 h4 h5 (ih hl)
 | bsl h1 h2 h3 h4 h5 h6 _ ih=>intro hl;exact .bsl h1 h2 h3 h4 h5 h6 (ih hl)
 | ptr h1 h2 h3 _ ih=>intro hl;exact .ptr h1 h2 h3 (ih hl)
 | yld h1 _ ih=>intro hl;exact .yld h1 (ih hl)
 | rp h1 h2 h3 h4 h5 _ _ ih=>intro hl;exact .rp (h1.encs ok h0) h2 (one _ _ _ hl h3) h4 h5 (ih (rest _ _ hl))
 | clo h1 h2 _ ih1 ih2=>intro hl;exact .clo (ih1 fun h=>hl (by simp[loans,loan,h])) h2 (ih2 fun h=>hl (by simp[loans,loan,h]))
 | tr h1 _ ih=>intro hl;exact .tr (h1.imp id fun ⟨a1,a2,B,a3,a4⟩=>⟨a1,a2,B,a3,hk _ _ _ a4⟩) (ih hl)
 | iv h1 _ ih=>intro hl;exact .iv h1 (ih hl)
 | gh _ ih=>intro hl;exact .gh (ih hl)
theorem RT.lent(ok:EnvOk E){St':Ck U->Nat->Prop}{q:A U}{v:Value}(hq:loan q=false)(hn:noTupG q=true)(h0:∀ B,St (.on false) B->St' (.on false) B)(hk:∀ c x B,St (.kn c x) B->St' (.kn c x) B)(h:RT E w St ι q v):RT E w St' ι q v:=by
 have key:RV E w St ι q v->RV E w St' ι q v:=fun h=>⟨h.1.lent ok h0 hk (fun hl=>by simp[loans,hq] at hl),h.2⟩
 cases q with
 | none=>trivial
 | tup l=>simp[noTupG] at hn
 | _=>exact key h
theorem callsIn_FR{ro:Option Nat}{n:Nat}{P:Program}{f:FuncId}{args:Array Value}{w:World}{R:Ending->World->Prop}(h:Calls P f args w R):CallsIn (FR ro) n P f args w R:=callsIn_wide.2 h
theorem plan_defer{s:S U}{b:Nat}{o:Oper}(hp:plan E b o s≠.bad):∀ c,o.op≠.defer c:=by
 intro c h
 exact hp (by unfold plan;rw[h])
variable {ro:Option Nat}
structure Stp (E:Env U) (s:S U) (N:Nat) (w:World) (ι:Nat->Option Value) (St:Ck U->Nat->Prop) (b:Nat) (dst:Option Nat) (wr:List (Nat×AObj U)) (v:A U)
  (tm':Array Value) (w':World) (ι':Nat->Option Value) (St':Ck U->Nat->Prop):Prop where
 rel:Rel E (s.put wr dst v) N tm' w' ι' St'
 fr:Fr (fun B=>Own s ι B\/KnB St B) w w'
 nm:∀ n v,ι n=some v->ι' n=some v
 new:∀ n,ι' n≠none->ι n≠none\/(b<=n/\n<b+100)
 own:∀ B,Own (s.put wr dst v) ι' B->Own s ι B\/w.heap.size<=B
 gr:∀ g B,St' g B->St g B\/Own s ι B\/w.heap.size<=B
 kn:∀ c x B,St (.kn c x) B->St' (.kn c x) B
theorem Rel.put'{w':World}{ι':Nat->Option Value}{St':Ck U->Nat->Prop}{wr:List (Nat×AObj U)}(R:Rel E { s with h:=upds s.h wr } N a.tmps w' ι' St')(dst:Option Nat)(hd:∀ d,dst=some d->d<N){v:A U}{u:Value}(hv:RT E w' St' ι' v u) :
  Rel E (s.put wr dst v) N (a.put dst u).tmps w' ι' St':=by
 cases dst with
 | none=>exact R
 | some d=>exact R.tmp' d (hd d rfl) hv
theorem op_stepO(R:Rel E s N a.tmps w ι St)(hd:∀ d,o.dst=some d->d<N){wr v}(H:Ops E s N a w ι St b o wr v)(hdf:∀ c,o.op≠.defer c)
  {next:Act->World->Prop} {Q:Exit->Act->World->Prop} (h:∀ u w' ι' St',Stp E s N w ι St b o.dst wr v (a.put o.dst u).tmps w' ι' St'->next (a.put o.dst u) w'):o.wpIn (FR ro) 0 E.P a w next Q:=by
 obtain⟨nx,u,w',ι',St',K⟩:=H
 have key:=h u w' ι' St' ⟨K.rel.put' o.dst hd K.val,K.fr.mono fun B _ h=>.inl h,K.nm,K.new,fun B hB=>K.own B hB,fun g B hB=>(K.gr g B hB).imp id .inl,K.kn⟩
 refine⟨fun _ _=>trivial,?_⟩
 rw[Oper.semAt_eq _ _ _ hdf,K.run]
 rcases K.nxt with rfl|⟨rfl,rfl⟩
 ·exact key
 ·exact key
theorem PDone.ne{p:Plan U}{pre rd wr v}(hp:PDone p pre rd wr v):p≠.bad:=by
 rcases hp with hp|⟨-,-,_,_,_,_,hp,-⟩<;>rw[hp]<;>simp
theorem op_step(ok:EnvOk2 E)(R:Rel E s N a.tmps w ι St)(hf:∀ m,b<=m->m<b+100->ι m=none)(hd:∀ d,o.dst=some d->d<N){pre rd wr v}(hp:PDone (plan E b o s) pre rd wr v)(hq:∀ p,pre=some p->p)
  {next:Act->World->Prop} {Q:Exit->Act->World->Prop} (h:∀ u w' ι' St',Stp E s N w ι St b o.dst wr v (a.put o.dst u).tmps w' ι' St'->next (a.put o.dst u) w'):o.wpIn (FR ro) 0 E.P a w next Q:=
 have hb:=hf b (Nat.le_refl _) (by omega)
 op_stepO R hd (pdone_sound ok R hb (R.dead hb) hp hq) (plan_defer hp.ne) h
theorem any_plan{q:Prop}{rd:List Nat}{neg:Bool}(hp:plan E b o s=.any q rd neg):∃ op t ty x c qq,o.op=.binOp op t x (.const (.slice .none 0 0)) ty/\slOf E t c=true/\content E s.h (s.ev E t x)=some qq/\isBsl (s.ev E t x)=false/\q=(qq.l=[])/\(op=.eql/\neg=false\/op=.neq/\neg=true):=by
 have key:∀ {op:BinOp} {t:TypeId} {u:A U} {c:Nat} {y:Operand},nilV E s op t u c y=.any q rd neg->∃ qq,y=.const (.slice .none 0 0)/\slOf E t c=true/\content E s.h u=some qq/\isBsl u=false/\q=(qq.l=[])/\(op=.eql/\neg=false\/op=.neq/\neg=true):=by
  intro op t u c y h
  unfold nilV at h
  split at h
  ·cases hb:(slOf E t c&&!isBsl u) with
   | false=>rw[hb] at h;cases h
   | true=>
    rw[hb] at h
    simp only[cond_true] at h
    simp only[Bool.and_eq_true,Bool.not_eq_true'] at hb
    split at h
    ·rename_i qq h1
     cases h;exact⟨qq,rfl,hb.1,h1,hb.2,rfl,.inl ⟨rfl,rfl⟩⟩
    ·rename_i qq h1
     cases h;exact⟨qq,rfl,hb.1,h1,hb.2,rfl,.inr ⟨rfl,rfl⟩⟩
    ·cases h
  ·cases h
 cases ho:o.op with
 | binOp op t x y ty=>
  simp only[plan,ho] at hp
  cases hy:s.ev E ty y with
  | nils c=>
   rw[hy] at hp
   have:nilV E s op t (s.ev E t x) c y=.any q rd neg:=by
    revert hp
    cases s.ev E t x<;>exact id
   obtain⟨qq,rfl,h2⟩:=key this
   exact⟨op,t,ty,x,c,qq,rfl,h2⟩
  | iv z=>exfalso;rw[hy] at hp;revert hp;cases z<;>cases s.ev E t x<;>(simp only[Bool.cond_eq_ite];intro hp;(repeat' split at hp)<;>first|exact eqP_any hp|cases hp)
  | _=>exfalso;rw[hy] at hp;revert hp;cases s.ev E t x<;>(simp only[Bool.cond_eq_ite];intro hp;(repeat' split at hp)<;>first|exact eqP_any hp|cases hp)
 | call c=>exfalso;revert hp;simp only[plan,ho];unfold callV lenV appendV copyV;simp only[Bool.cond_eq_ite];intro hp;(repeat' split at hp)<;>cases hp
 | unOp op t x=>exfalso;revert hp;cases op<;>(simp only[plan,ho];intro hp;(repeat' split at hp)<;>cases hp)
 | makeFunc fn first caps=>exfalso;revert hp;cases fn<;>(simp only[plan,ho];(try simp only[Bool.cond_eq_ite]);intro hp;(repeat' split at hp)<;>cases hp)
 | slice t x lo hi mx=>exfalso;revert hp;simp only[plan,ho,sliceV,Bool.cond_eq_ite];intro hp;(repeat' split at hp)<;>cases hp
 | convert t d x=>exfalso;revert hp;simp only[plan,ho];unfold convV;simp only[Bool.cond_eq_ite];intro hp;(repeat' split at hp)<;>cases hp
 | typeAssert x xt t c=>exfalso;revert hp;cases c<;>simp only[plan,ho]<;>intro hp<;>(repeat' split at hp)<;>cases hp
 | _=>exfalso;revert hp;simp only[plan,ho];(try simp only[Bool.cond_eq_ite]);intro hp;(repeat' split at hp)<;>cases hp
theorem soft_any{q:Prop}{rd:List Nat}{neg:Bool}(hp:plan E b o s=.any q rd neg):soft o=false:=by
 obtain⟨op,t,ty,x,c,qq,ho,-⟩:=any_plan hp
 unfold soft
 rw[ho]
 rfl
theorem any_step(ok:EnvOk2 E)(R:Rel E s N a.tmps w ι St)(hd:∀ d,o.dst=some d->d<N){q:Prop}{rd:List Nat}{neg:Bool}(hp:plan E b o s=.any q rd neg){Kc:Bool->Prop}(hc:∀ c:Bool,(c=true->q)->Kc c)
  {next:Act->World->Prop} {Q:Exit->Act->World->Prop} (h:∀ c u w' ι' St',Kc c->Stp E s N w ι St b o.dst [] (.bool (cond neg (!c) c)) (a.put o.dst u).tmps w' ι' St'->next (a.put o.dst u) w'):o.wpIn (FR ro) 0 E.P a w next Q:=by
 obtain⟨op,t,ty,x,c,qq,ho,h1,h2,h3,rfl,h4⟩:=any_plan hp
 obtain⟨r,r1,r2,r3⟩:=op_nil (b:=b) ok R op t ty x _ ho h1 h2 h3 rfl
 have hdf:∀ c,o.op≠.defer c:=fun c e=>by rw[ho] at e;cases e
 rcases h4 with ⟨e,rfl⟩|⟨e,rfl⟩
 ·exact op_stepO R hd (r2 e) hdf fun u w' ι' St' hs=>h r u w' ι' St' (hc r r1) hs
 ·exact op_stepO R hd (r3 e) hdf fun u w' ι' St' hs=>h r u w' ι' St' (hc r r1) hs
def mvs(g:FuncId)(args vs:Array Value):Array Value:=cond (Nat.blt g 1000000) (args++vs) (vs++args)
theorem fv_split(g:FuncId)(vs:Array Value):∃ g' first caps,fv g vs=.func (.func g') first caps/\mfn g=g'/\∀ args,mvs g args vs=first++args++caps:=by
 cases hg:Nat.blt g 1000000 with
 | true=>exact⟨g,#[],vs,fv_lt hg vs,by unfold mfn;rw[hg,cond_true],fun args=>by unfold mvs;rw[hg,cond_true,Array.empty_append]⟩
 | false=>exact⟨g % 1000000,vs,#[],fv_ge hg vs,by unfold mfn;rw[hg,cond_false],fun args=>by unfold mvs;rw[hg,cond_false,Array.append_empty]⟩
theorem call_run{c:Call}{f:Operand}(hc:c.callee=.value f)(ho:o.op=.call c){g:FuncId}{vs:Array Value}(hv:a.eval f=fv g vs){fn:Func}{body:Code}(hf:E.P.funcs[mfn g]?=some fn)(hb:fn.body=some body)
  (hn:(fn.name == "runtime.NumGoroutine")=false):(execOp a.eval o).run E.P w=.ok (.enter (mfn g) (mvs g (c.args.map a.eval) vs)) w:=by
 obtain⟨g',first,caps,e1,e2,e3⟩:=fv_split g vs
 rw[e1] at hv
 rw[e2] at hf ⊢
 rw[e3]
 simp only[execOp,ho,resolve,hc,hv,Deferred.ofValue,Sem.run_bind,Sem.run_pure,Result.andThen_ok,invoke]
 rw[MuLone.run_callFunc_enter hf hn hb]
theorem call_done(ok:EnvOk2 E)(R:Rel E s N a.tmps w ι St)(hf:∀ m,b<=m->m<b+100->ι m=none)(dst:Option Nat)(hd:∀ d,dst=some d->d<N){args:List (A U)}{K:A U->List (AObj U)->Prop}
  {v:Value} {w':World} {r:A U} {bs:List Nat} {St':Ck U->Nat->Prop} (q:Result' E w (StC s St ι (ownss args)) K v w' r bs St') (hp:ptrs r=[]) (hM:(nameA [] b r b).2.2<=b+100) (hbx:loan r=true->∀ m∈ownss args,isBox (s.h m)=false) :
  ∃ ι' St2,Stp E s N w ι St b dst (cond (loan r) (fzOf s.h (ownss args)) []++(nameA [] b r b).2.1) (nameA [] b r b).1 (a.put dst v).tmps w' ι' St2:=by
 have noK:∀ B,AnR St B->¬KnB St B:=fun B h ⟨c,x,h1⟩=>R.sup.cls c x B h1 h
 have g0:∀ B,St' (.on false) B->St (.on false) B\/w.heap.size<=B:=fun B h=>q.gr (.on false) B h
 have gk:∀ c x B,St' (.kn c x) B->St (.kn c x) B\/w.heap.size<=B:=fun c x B h=>q.gr (.kn c x) B h
 have gJ:∀ g B,joinS St St' w.heap.size g B->St g B\/(w.heap.size<=B/\An St' B):=fun g B h=>by
  rcases h with h|h
  ·exact .inl h
  ·cases g with
   | on g=>exact .inr ⟨h.1,h.2.an⟩
   | kn c x=>exact (gk c x B h).imp id fun h1=>⟨h1,⟨_,h⟩⟩
 have R0:Rel E s N a.tmps w' ι (joinS St St' w.heap.size):=R.worldK q.fr.size (fun B hB=>q.fr.same B (R.stb B hB.an) (noK B hB)) (fun n B hl hB=>q.fr.same B (R.lt n B hl hB) fun h=>R.apt n B hl hB (KnB.an h))
  (fun g B h=>.inl h) (fun g B h=>(gJ g B h).imp id fun h=>⟨h.1,q.lt B h.2⟩) (fun n B hl hB=>R.lt n B hl hB)
  (R.sup.joinS ok.toEnvOk R.stb (fun B hB=>q.fr.same B (R.stb B hB.an) (noK B hB)) q.fr.size q.sup q.kn g0 gk)
 have K1:∃ St1,(∀ g B,St1 g B->joinS St St' w.heap.size g B\/Own s ι B)/\(∀ g B,joinS St St' w.heap.size g B->St1 g B)/\Rel E { s with h:=upds s.h (cond (loan r) (fzOf s.h (ownss args)) []) } N a.tmps w' ι St1/\Frz s.h (upds s.h (cond (loan r) (fzOf s.h (ownss args)) [])) ∧
   (loan r=true->∀ m∈ownss args,isLst (s.h m)=true->∀ B,blkO (ι m)=some B->∀ g:Bool,St1 (.on g) B):=by
  cases hl:loan r with
  | false=>exact⟨_,fun g B h=>.inl h,fun g B h=>h,R0,Frz.refl _,fun h=>by simp at h⟩
  | true=>
   obtain⟨St1,x,g1,R1,f1,p1⟩:=fzOf_ok ok (ownss args) (s:=s) (Frz.refl _) R0 (fun n c x h1 h2=>by rw[h1] at h2;cases h2)
   exact⟨St1,g1,x.st,R1,f1,fun _=>p1⟩
 obtain⟨St1,g1,x1,R1,f1,p1⟩:=K1
 have old:∀ g B,St1 g B->B<w.heap.size\/An St' B:=fun g B h=>by
  rcases g1 g B h with h|⟨n,h1,h2⟩
  ·rcases gJ g B h with h|h
   ·exact .inl (R.stb B ⟨g,h⟩)
   ·exact .inr h.2
  ·exact .inl (R.lt n B h1 h2)
 have R2:=R1
 have c0:∀ B,St' (.on false) B->St1 (.on false) B:=fun B h=>by
  rcases g0 B h with h1|h1
  ·exact x1 _ _ (.inl h1)
  ·exact x1 _ _ (.inr ⟨h1,⟨_,h⟩⟩)
 have ck:∀ c x B,St' (.kn c x) B->St1 (.kn c x) B:=fun c x B h=>x1 _ _ (.inr h)
 have c1:loan r=true->∀ B,St' (.on true) B->St1 (.on true) B:=fun hl B h=>by
  rcases q.gr (.on true) B h with h1|h1
  ·simp only[StC] at h1
   rcases h1 with ⟨g,h1⟩|⟨m,h2,h3,h4⟩
   ·cases g
    ·exact x1 _ _ (.inl (R.sup.up B h1))
    ·exact x1 _ _ (.inl h1)
   ·exact p1 hl m h2 (by unfold isMem at h3;rw[hbx hl m h2,Bool.or_false] at h3;exact h3) B h4 true
  ·exact x1 _ _ (.inr ⟨h1,⟨_,h⟩⟩)
 have hb:∀ B∈bs,¬An St1 B/\¬Own { s with h:=upds s.h (cond (loan r) (fzOf s.h (ownss args)) []) } ι B:=fun B hB=>by
  obtain⟨n1,n2,n3⟩:=q.new B hB
  refine⟨fun ⟨g,h⟩=>?_,fun ⟨m,h1,h2⟩=>?_⟩
  ·rcases old g B h with h|h
   ·omega
   ·exact n3 h
  ·have:=R.lt m B (f1.live h1) h2;omega
 have hfr:∀ m,b<=m->m<b+100->ι m=none/\isLive (upds s.h (cond (loan r) (fzOf s.h (ownss args)) []) m)=false:=fun m h1 h2=>⟨hf m h1 h2,R1.dead (hf m h1 h2)⟩
 have fin:∀ (wr:List (Nat×AObj U)) (n':Nat) (r':A U) ι',n'<=b+100->Named E { s with h:=upds s.h (cond (loan r) (fzOf s.h (ownss args)) []) } N a.tmps w' ι St1 wr (b+100) b n' bs ι' →
   RT E w' St1 ι' r' v->∃ ι' St2,Stp E s N w ι St b dst (cond (loan r) (fzOf s.h (ownss args)) []++wr) r' (a.put dst v).tmps w' ι' St2:=by
  intro wr n' r' ι' hn nm hv
  have hrel:=nm.rel
  rw[<-upds_append] at hrel
  refine⟨ι',_,hrel.put' dst hd hv,q.fr.mono fun _ _ h=>.inr h,nm.nm,fun n h=>(nm.new n h).imp id fun h=>⟨h.1,by omega⟩,fun B hB=>?_,fun g B h=>?_,fun c x B h=>x1 _ _ (.inl h)⟩
  ·have:Own { s with h:=upds (upds s.h (cond (loan r) (fzOf s.h (ownss args)) [])) wr } ι' B:=by
    obtain⟨n,h1,h2⟩:=hB
    exact⟨n,by rw[<-upds_append];exact h1,h2⟩
   rcases nm.own B this with ⟨n,h1,h2⟩|h
   ·exact .inl ⟨n,f1.live h1,h2⟩
   ·exact .inr (q.new B h).1
  ·rcases g1 g B h with h|h
   ·exact (gJ g B h).imp id fun h=>.inr h.1
   ·exact .inr (.inl h)
 have hval:=q.val
 by_cases ht:∃ l,r=.tup l
 ·obtain⟨l,rfl⟩:=ht
  obtain⟨us,rfl,hv⟩:=hval
  obtain⟨v1,v2⟩:=hv.flat ok.toEnvOk
  have v3:=v1.lent ok.toEnvOk (St':=St1) c0 ck (fun h=>c1 (by simpa[loan] using h))
  obtain⟨ι',nm,rc,sh⟩:=nameAs_ok ok b l R2 v3 (by simpa[ptrs] using hp) hfr (by simpa[nameA] using hM) q.dis hb
  simp only[nameA]
  exact fin _ _ _ ι' (by simpa[nameA] using hM) nm ⟨us,rfl,RVs.of_flat ok.toEnvOk rc (v2.trans sh.symm)⟩
 ·have hval':RC E w' St' noNm [r] v.cells.toList bs/\isAggV v=isAgg r:=by
   unfold RTb at hval
   split at hval
   ·exact absurd ⟨_,rfl⟩ ht
   ·exact hval
  have v3:=hval'.1.lent ok.toEnvOk (St':=St1) c0 ck (fun h=>c1 (by simpa[loans] using h))
  obtain⟨ι',nm,rc,ag,sz⟩:=nameA_ok ok b r R2 v3 hp hfr hM q.dis hb
  exact fin _ _ _ ι' hM nm (RT.of_rv ⟨rc,hval'.2.trans ag.symm⟩)
mutual
theorem inA_congr{h h':Nat->AObj U}:∀ (q:A U),(∀ m∈owns q,h' m=h m)->inA E h' [] q=inA E h [] q
 | .own m,e=>by simp only[inA,e m (by simp[owns])]
 | .sub m c i len,e=>by simp only[inA,content,e m (by simp[owns])]
 | .agg l,e=>by simp only[inA,inAs_congr l (by simpa[owns] using e)]
 | .clo f l,e=>by simp only[inA,inAs_congr l (by simpa[owns] using e)]
 | .tup l,e=>rfl
 | .none,e=>rfl
 | .bsl m p c M i len,e=>by simp only[inA,content,e m (by simp[owns])]
 | .ptr m p,e=>rfl
 | .yld m,e=>rfl
 | .tr c9 x9 p9,e=>rfl
 | .iv x9,e=>rfl
 | .gh g9,e=>rfl
 | .int k m,e=>rfl
 | .bool k,e=>rfl
 | .str k,e=>rfl
 | .nilp,e=>rfl
 | .nilf,e=>rfl
 | .nils c,e=>rfl
 | .usl c l,e=>rfl
 | .arr c k xs,e=>rfl
 | .ro g c xs,e=>rfl
 | .clip g c xs,e=>rfl
 | .rp g c xs i p,e=>rfl
theorem inAs_congr{h h':Nat->AObj U}:∀ (q:List (A U)),(∀ m∈ownss q,h' m=h m)->inAs E h' [] q=inAs E h [] q
 | [],e=>rfl
 | q::l,e=>by simp only[inAs,inA_congr q (fun m hm=>e m (by simp[ownss,hm])),inAs_congr l (fun m hm=>e m (by simp[ownss,hm]))]
end
theorem fzOf_congr{h h':Nat->AObj U}:∀ (l:List Nat),(∀ m∈l,h' m=h m)->fzOf h' l=fzOf h l
 | [],e=>rfl
 | m::l,e=>by simp only[fzOf,e m (by simp),fzOf_congr l (fun k hk=>e k (by simp[hk]))]
theorem fzOf_names{h:Nat->AObj U}:∀ (l:List Nat),∀ x∈fzOf h l,x.1∈l
 | [],x,hx=>by simp[fzOf] at hx
 | m::l,x,hx=>by
  simp only[fzOf,List.mem_append] at hx
  rcases hx with hx|hx
  ·cases hm:h m with
   | lst c q=>rw[hm] at hx;simp only[List.mem_cons,List.not_mem_nil,or_false] at hx;subst hx;simp
   | dead=>rw[hm] at hx;simp at hx
   | lp lf lid live vals j=>rw[hm] at hx;simp at hx
   | box q=>rw[hm] at hx;simp at hx
   | fz c q=>rw[hm] at hx;simp at hx
  ·exact List.mem_cons_of_mem _ (fzOf_names l x hx)
mutual
theorem nameA_names(b:Nat):∀ (q:A U) (n:Nat),∀ x∈(nameA [] b q n).2.1,n<=x.1/\x.1<(nameA [] b q n).2.2
 | .usl c xs,n,x,hx=>by simp only[nameA,List.mem_cons,List.not_mem_nil,or_false] at hx ⊢;subst hx;simp
 | .agg l,n,x,hx=>by simp only[nameA] at hx ⊢;exact nameAs_names b l n x hx
 | .tup l,n,x,hx=>by simp only[nameA] at hx ⊢;exact nameAs_names b l n x hx
 | .clo f l,n,x,hx=>by simp only[nameA] at hx ⊢;exact nameAs_names b l n x hx
 | .none,n,x,hx=>by simp[nameA] at hx
 | .own m,n,x,hx=>by simp[nameA] at hx
 | .sub m c i len,n,x,hx=>by simp[nameA] at hx
 | .bsl m p c M i len,n,x,hx=>by simp[nameA] at hx
 | .ptr m p,n,x,hx=>by simp[nameA] at hx
 | .yld m,n,x,hx=>by simp[nameA] at hx
 | .tr c9 x9 p9,n,x,hx=>by simp[nameA] at hx
 | .iv x9,n,x,hx=>by simp[nameA] at hx
 | .gh g9,n,x,hx=>by simp[nameA] at hx
 | .int k m,n,x,hx=>by simp[nameA] at hx
 | .bool k,n,x,hx=>by simp[nameA] at hx
 | .str k,n,x,hx=>by simp[nameA] at hx
 | .nilp,n,x,hx=>by simp[nameA] at hx
 | .nilf,n,x,hx=>by simp[nameA] at hx
 | .nils c,n,x,hx=>by simp[nameA] at hx
 | .arr c k xs,n,x,hx=>by simp[nameA] at hx
 | .ro g c xs,n,x,hx=>by simp[nameA] at hx
 | .clip g c xs,n,x,hx=>by simp[nameA] at hx
 | .rp g c xs i p,n,x,hx=>by simp[nameA] at hx
theorem nameAs_names(b:Nat):∀ (q:List (A U)) (n:Nat),∀ x∈(nameAs [] b q n).2.1,n<=x.1/\x.1<(nameAs [] b q n).2.2
 | [],n,x,hx=>by simp[nameAs] at hx
 | q::l,n,x,hx=>by
  simp only[nameAs,List.mem_append] at hx ⊢
  rcases hx with hx|hx
  ·have h1:=nameA_names b q n x hx
   have h2:=nameAs_le b l (nameA [] b q n).2.2
   exact⟨h1.1,Nat.lt_of_lt_of_le h1.2 h2⟩
  ·have h1:=nameAs_names b l _ x hx
   have h2:=nameA_le b q n
   exact⟨Nat.le_trans h2 h1.1,h1.2⟩
end
set_option maxHeartbeats 2000000 in
theorem call_plan{f:FuncId}{args:List (A U)}{look:List Nat}(hp:plan E b o s=.call f args look):∃ c g g0 caps,o.op=.call c/\c.callee=.value g/\s.ev E 0 g=.clo g0 caps/\Nat.blt (mfn g0) 1000000=true/\(f=mfn g0\/(f=mfn g0+2000000/\memN (mfn g0) E.procs=true/\memN (mfn g0) E.lends=false))/\args=margs g0 (evArgs E s c.args.toList c.argTypes.toList) caps ∧
  (memN (mfn g0) E.procs=false->look=ownss args)/\(memN (mfn g0) E.procs=true->memN (mfn g0) E.lends=false->∃ x,layG s.h b [] args=some x/\look=x.L1++x.L) ∧
  (memN (mfn g0) E.procs=true->memN (mfn g0) E.lends=true->∃ x,layG (upds s.h (lendAll E s.h args).2) b [] (lendAll E s.h args).1=some x/\look=namess args++(x.L1++x.L)):=by
 have nolen:∀ t x,lenV E s t x≠.call f args look:=by
  intro t x h;revert h;unfold lenV;intro h;(repeat' split at h)<;>cases h
 have noapp:∀ t u x y,appendV E s b t u x y≠.call f args look:=by
  intro t u x y h;revert h;unfold appendV;simp only[Bool.cond_eq_ite];intro h;(repeat' split at h)<;>cases h
 have nocall:∀ c,callV E s b c=.call f args look->∃ g g0 caps,c.callee=.value g/\s.ev E 0 g=.clo g0 caps/\Nat.blt (mfn g0) 1000000=true/\(f=mfn g0\/(f=mfn g0+2000000/\memN (mfn g0) E.procs=true/\memN (mfn g0) E.lends=false))/\args=margs g0 (evArgs E s c.args.toList c.argTypes.toList) caps ∧
   (memN (mfn g0) E.procs=false->look=ownss args)/\(memN (mfn g0) E.procs=true->memN (mfn g0) E.lends=false->∃ x,layG s.h b [] args=some x/\look=x.L1++x.L) ∧
  (memN (mfn g0) E.procs=true->memN (mfn g0) E.lends=true->∃ x,layG (upds s.h (lendAll E s.h args).2) b [] (lendAll E s.h args).1=some x/\look=namess args++(x.L1++x.L)):=by
  intro c h
  unfold callV at h
  simp only[] at h
  cases hc:c.callee with
  | value g=>
   rw[hc] at h
   simp only[] at h
   cases hg:s.ev E 0 g with
   | clo g' caps=>
    rw[hg] at h
    simp only[] at h
    cases hbl:Nat.blt (mfn g') 1000000 with
    | false=>rw[hbl] at h;cases h
    | true=>
    rw[hbl,cond_true] at h
    cases hpr:memN (mfn g') E.procs with
    | false=>rw[hpr] at h;cases h;exact⟨g,_,_,rfl,hg,hbl,.inl rfl,rfl,fun _=>rfl,fun h=>(by rw[hpr] at h;cases h),fun h=>(by rw[hpr] at h;cases h)⟩
    | true=>
     rw[hpr] at h
     simp only[cond_true] at h
     cases hle:memN (mfn g') E.lends with
     | false=>
      rw[hle] at h
      simp only[cond_false] at h
      cases hx:layG s.h b [] (margs g' (evArgs E s c.args.toList c.argTypes.toList) caps) with
      | none=>rw[hx] at h;cases h
      | some x=>
       rw[hx] at h
       simp only[Plan.call.injEq] at h
       obtain⟨h1,rfl,rfl⟩:=h
       refine⟨g,_,_,rfl,hg,hbl,?_,rfl,fun h=>(by rw[hpr] at h;cases h),fun _ _=>⟨x,hx,rfl⟩,fun _ h=>(by rw[hle] at h;cases h)⟩
       cases hre:memN (mfn g') E.reads with
       | false=>rw[hre,cond_false] at h1;exact .inl h1.symm
       | true=>rw[hre,cond_true] at h1;exact .inr ⟨h1.symm,hpr,hle⟩
     | true=>
      rw[hle] at h
      simp only[cond_true] at h
      cases hx:layG (upds s.h (lendAll E s.h (margs g' (evArgs E s c.args.toList c.argTypes.toList) caps)).2) b [] (lendAll E s.h (margs g' (evArgs E s c.args.toList c.argTypes.toList) caps)).1 with
      | none=>rw[hx] at h;cases h
      | some x=>rw[hx] at h;cases h;exact⟨g,_,_,rfl,hg,hbl,.inl rfl,rfl,fun h=>(by rw[hpr] at h;cases h),fun _ h=>(by rw[hle] at h;cases h),fun _ _=>⟨x,hx,rfl⟩⟩
   | yld n=>
    rw[hg] at h
    simp only[] at h
    exfalso
    (repeat' split at h)<;>cases h
   | _=>rw[hg] at h;simp at h
  | invoke r m=>rw[hc] at h;simp at h
  | builtin q=>
   rw[hc] at h
   cases q with
   | copy=>exfalso;simp only[] at h;revert h;unfold copyV;simp only[Bool.cond_eq_ite];intro h;(repeat' split at h)<;>cases h
   | max=>exfalso;simp only[] at h;revert h;intro h;(repeat' split at h)<;>cases h
   | min=>exfalso;simp only[] at h;revert h;intro h;(repeat' split at h)<;>cases h
   | len=>simp only[] at h;split at h;exact absurd h (nolen _ _);cases h
   | append=>simp only[] at h;split at h;exact absurd h (noapp _ _ _ _);cases h
   | _=>simp at h
 cases ho:o.op with
 | call c=>
  simp only[plan,ho] at hp
  obtain⟨g,g0,caps,h⟩:=nocall c hp
  exact⟨c,g,g0,caps,rfl,h⟩
 | unOp op t x=>exfalso;revert hp;cases op<;>(simp only[plan,ho];intro hp;(repeat' split at hp)<;>cases hp)
 | makeFunc fn first caps=>exfalso;revert hp;cases fn<;>(simp only[plan,ho];(try simp only[Bool.cond_eq_ite]);intro hp;(repeat' split at hp)<;>cases hp)
 | binOp op t x y ty=>exfalso;revert hp;simp only[plan,ho,nilV,Bool.cond_eq_ite];intro hp;(repeat' split at hp)<;>first|exact eqP_call hp|cases hp
 | typeAssert x xt t c=>exfalso;revert hp;cases c<;>simp only[plan,ho]<;>intro hp<;>(repeat' split at hp)<;>cases hp
 | slice t x lo hi mx=>exfalso;revert hp;simp only[plan,ho,sliceV,Bool.cond_eq_ite];intro hp;(repeat' split at hp)<;>cases hp
 | convert t d x=>exfalso;revert hp;simp only[plan,ho];unfold convV;simp only[Bool.cond_eq_ite];intro hp;(repeat' split at hp)<;>cases hp
 | _=>exfalso;revert hp;simp only[plan,ho];(try simp only[Bool.cond_eq_ite]);intro hp;(repeat' split at hp)<;>cases hp
theorem noTup_known{a:A U}(h:known a=true):noTup a=true:=by cases a<;>first|rfl|(simp[known] at h;done)
theorem RVs.holds{ι:Nat->Option Value}:∀ {l:List (A U)} {vs:List Value},RVs E w St ι l vs->l.all known=true->Holds E w St ι l vs
 | [],[],_,_=>trivial
 | [],_::_,h,_=>h.elim
 | _::_,[],h,_=>h.elim
 | a::l,v::vs,h,hk=>by
  simp only[List.all_cons,Bool.and_eq_true] at hk
  refine⟨?_,RVs.holds h.2 hk.2⟩
  rcases h.1 with e|h
  ·rw[e] at hk;simp[known] at hk
  ·exact RT.of_rv h
theorem Holds.rvs{ι:Nat->Option Value}:∀ {l:List (A U)} {vs:List Value},Holds E w St ι l vs->(∀ a∈l,noTup a=true)->RVs E w St ι l vs
 | [],[],_,_=>trivial
 | [],_::_,h,_=>h.elim
 | _::_,[],h,_=>h.elim
 | a::l,v::vs,h,hk=>by
  refine⟨?_,Holds.rvs h.2 fun x hx=>hk x (by simp[hx])⟩
  have ht:=hk a (by simp)
  cases a with
  | none=>exact .inl rfl
  | tup l=>simp[noTup] at ht
  | _=>exact .inr h.1
theorem args_known(ok:EnvOk2 E)(R:Rel E s N a.tmps w ι St):∀ (xs:List Operand) (ts:List TypeId),(evArgs E s xs ts).all known=true->RVs E w St ι (evArgs E s xs ts) (xs.map a.eval)
 | [],ts,_=>by cases ts<;>trivial
 | x::xs,ts,h=>by
  have key:∀ t ts',known (s.ev E t x)=true->(evArgs E s xs ts').all known=true->RVs E w St ι (s.ev E t x::evArgs E s xs ts') (a.eval x::xs.map a.eval):=by
   intro t ts' h1 h2
   refine⟨?_,args_known ok R xs ts' h2⟩
   have:=ev_ok ok R t x
   cases hv:s.ev E t x with
   | none=>rw[hv] at h1;simp[known] at h1
   | tup l=>rw[hv] at h1;simp[known] at h1
   | usl c l=>rw[hv] at h1;simp[known] at h1
   | _=>rw[hv] at this;exact .inr this
  cases ts with
  | nil=>simp only[evArgs,List.all_cons,Bool.and_eq_true] at h ⊢;exact key 0 [] h.1 h.2
  | cons t ts=>simp only[evArgs,List.all_cons,Bool.and_eq_true] at h ⊢;exact key t ts h.1 h.2
structure StpX (E:Env U) (s:S U) (N:Nat) (w:World) (ι:Nat->Option Value) (St:Ck U->Nat->Prop) (X:Nat->Prop) (b:Nat) (dst:Option Nat) (wr:List (Nat×AObj U)) (v:A U)
  (tm':Array Value) (w':World) (ι':Nat->Option Value) (St':Ck U->Nat->Prop):Prop where
 rel:Rel E (s.put wr dst v) N tm' w' ι' St'
 fr:Fr (fun B=>(Own s ι B\/X B)\/KnB St B) w w'
 nm:∀ n v,ι n=some v->ι' n=some v
 new:∀ n,ι' n≠none->ι n≠none\/(b<=n/\n<b+100)
 own:∀ B,Own (s.put wr dst v) ι' B->(Own s ι B\/X B)\/w.heap.size<=B
 gr:∀ g B,St' g B->St g B\/(Own s ι B\/X B)\/w.heap.size<=B
 ext:Ext w St ι w' St' ι'
theorem proc_doneX(ok:EnvOk2 E)(R:Rel E s N a.tmps w ι St)(hf:∀ m,b<=m->m<b+100->ι m=none)(dst:Option Nat)(hd:∀ d,dst=some d->d<N){us:List Value}{x:Laid U}{ι2:Nat->Option Value}(L:LaidOk E s N a.tmps w ι St b us x ι2)
  (hn:x.n<=b+100) (hL:∀ m∈x.L,m<x.n\/b+100<=m) {X:Nat->Prop} (hX:∀ B,X B->¬Own s ι B/\¬An St B) {K:A U->List (AObj U)->Prop} {v:Value} {w':World} {r:A U} {objs:List (AObj U)} {ι':Nat->Option Value} {St':Ck U->Nat->Prop}
  (q:ResP E w St (fun B=>OwnH (nthO x.objs) (reι x.L ι2) B\/X B) (reι x.L ι2) x.objs.length K v w' r objs ι' St') (h1:x.L.length<=objs.length) (h2:x.n+(objs.length-x.L.length)<=b+100) :
  ∃ ι4 St2,StpX E s N w ι St X b dst (x.wr++wrP x.L x.n 0 objs) (mapA (unr x.L x.n) r) (a.put dst v).tmps w' ι4 St2/\∀ B,X B->¬OwnH (nthO objs) ι' B->¬An St' B->¬Own (s.put (x.wr++wrP x.L x.n 0 objs) dst (mapA (unr x.L x.n) r)) ι4 B/\¬An St2 B:=by
 let g:=unr x.L x.n
 let ι4:Nat->Option Value:=fun m=>if x.n<=m/\m<x.n+(objs.length-x.L.length) then ι' (x.L.length+(m-x.n)) else ι2 m
 let St2:Ck U->Nat->Prop:=fun gg B=>St gg B\/St' gg B
 have R2:=L.rel
 have hO:∀ B,OwnH (nthO x.objs) (reι x.L ι2) B->Own s ι B:=fun B h=>L.own B (L.sub B h)
 have oldlt:∀ m B,isLive (upds s.h x.wr m)=true->blkO (ι2 m)=some B->B<w.heap.size:=fun m B h3 h4=>R2.lt m B h3 h4
 have inL:∀ k n,x.L[k]?=some n->k<x.L.length:=fun k n h=>(List.getElem?_eq_some_iff.1 h).1
 have ι2free:∀ m,x.n<=m->m<b+100->ι2 m=none:=by
  intro m h3 h4
  cases hm:ι2 m with
  | none=>rfl
  | some u=>
   rcases L.new m (by rw[hm];simp) with h|h
   ·exact absurd (hf m (Nat.le_trans L.le h3) h4) h
   ·omega
 have gk:∀ k,k<objs.length->ι4 (g k)=ι' k:=by
  intro k hk
  by_cases hkL:k<x.L.length
  ·have e:=unr_lt (n:=x.n) hkL
   have hm:=List.mem_of_getElem? e
   have hno:¬(x.n<=unr x.L x.n k/\unr x.L x.n k<x.n+(objs.length-x.L.length)):=by
    have:=hL _ hm
    omega
   show (if _ then _ else _)=_
   rw[if_neg hno,q.old k (by rw[L.len];exact hkL)]
   unfold reι
   rw[e]
  ·have e:=unr_ge (n:=x.n) (Nat.le_of_not_lt hkL)
   show (if x.n<=unr x.L x.n k/\unr x.L x.n k<x.n+(objs.length-x.L.length) then ι' (x.L.length+(unr x.L x.n k-x.n)) else ι2 (unr x.L x.n k))=_
   rw[e,if_pos (by omega)]
   congr 1
   omega
 have hg:∀ n u,ι' n=some u->ι4 (g n)=some u:=by
  intro n u h
  by_cases hn:n<objs.length
  ·rw[gk n hn];exact h
  ·rw[q.out n (Nat.le_of_not_lt hn)] at h;cases h
 have inj:∀ i j,i<objs.length->j<objs.length->g i=g j->i=j:=fun i j hi hj h=>unr_inj (M:=b+100) L.nod hL (fun _=>by omega) (fun _=>by omega) h
 have hw:∀ k,k<objs.length->upds (upds s.h x.wr) (wrP x.L x.n 0 objs) (g k)=mapO g (nthO objs k):=by
  intro k hk
  have:=upds_wrP (L:=x.L) (n:=x.n) objs 0 (upds s.h x.wr) (fun i j _ h4 _ h6 h=>inj i j (by omega) (by omega) h) k hk
  rwa [Nat.zero_add] at this
 have hno:∀ m,(∀ k,k<objs.length->g k≠m)->upds (upds s.h x.wr) (wrP x.L x.n 0 objs) m=upds s.h x.wr m:=by
  intro m hm
  refine upds_notin fun h=>?_
  obtain⟨y,hy,e⟩:=List.mem_map.1 h
  obtain⟨i,h3,h4,h5⟩:=wrP_names 0 objs y hy
  exact hm i (by omega) (by show unr x.L x.n i=m;rw[<-h5,e])
 have e2:upds s.h (x.wr++wrP x.L x.n 0 objs)=upds (upds s.h x.wr) (wrP x.L x.n 0 objs):=upds_append _ _ _
 have case:∀ m,(∃ k,k<objs.length/\g k=m)\/∀ k,k<objs.length->g k≠m:=by
  intro m
  by_cases h:∃ k,k<objs.length/\g k=m
  ·exact .inl h
  ·exact .inr fun k hk e=>h ⟨k,hk,e⟩
 have out4:∀ m,(∀ k,k<objs.length->g k≠m)->ι4 m=ι2 m:=by
  intro m hm
  show (if _ then _ else _)=_
  rw[if_neg]
  intro h
  refine hm (x.L.length+(m-x.n)) (by omega) ?_
  show unr x.L x.n _=m
  rw[unr_ge (by omega)]
  omega
 have nm4:∀ m u,ι2 m=some u->ι4 m=some u:=by
  intro m u h
  show (if _ then _ else _)=_
  rw[if_neg]
  ·exact h
  ·intro h3
   rw[ι2free m h3.1 (by omega)] at h
   cases h
 have apart:∀ m B,(∀ k,k<objs.length->g k≠m)->isLive (upds s.h x.wr m)=true->blkO (ι2 m)=some B->¬OwnH (nthO x.objs) (reι x.L ι2) B:=by
  rintro m B hm hl hB ⟨k,l1,b1⟩
  cases hk:x.L[k]? with
  | none=>
   unfold reι at b1
   rw[hk] at b1
   simp[blkO] at b1
  | some n=>
   rw[L.at_ k n hk,live_ren] at l1
   unfold reι at b1
   rw[hk] at b1
   have e:=R2.dis n m B l1 hl b1 hB
   have hkl:=inL k n hk
   refine hm k (by omega) ?_
   have:=unr_lt (n:=x.n) hkl
   rw[hk] at this
   show unr x.L x.n k=m
   rw[<-e]
   exact (Option.some.inj this).symm
 have apart':∀ m B,(∀ k,k<objs.length->g k≠m)->isLive (upds s.h x.wr m)=true->blkO (ι2 m)=some B->¬(OwnH (nthO x.objs) (reι x.L ι2) B\/X B):=fun m B h1 h2 h3 h4=>
  h4.elim (apart m B h1 h2 h3) fun h=>(hX B h).1 (L.own B ⟨m,h2,h3⟩)
 have noO:∀ B,An St B->¬(OwnH (nthO x.objs) (reι x.L ι2) B\/X B):=fun B h ho=>by
  rcases ho with ho|ho
  ·obtain⟨n,l1,b1⟩:=L.sub B ho
   exact R2.apt n B l1 b1 h
  ·exact (hX B ho).2 h
 have heapSt:∀ B,AnR St B->w'.heap[B]?=w.heap[B]?:=fun B h=>q.fr.same B (R.stb B h.an) fun ho=>ho.elim (noO B h.an) fun ⟨c,x,h1⟩=>R.sup.cls c x B h1 h
 have kn2:∀ {c:Nat} {x:KT (U c)} {B:Nat},St2 (.kn c x) B->St' (.kn c x) B:=fun h=>h.elim (q.kn _ _ _) id
 have cls2:∀ c x B,St2 (.kn c x) B->¬AnR St2 B:=by
  rintro c x B h1 ⟨gg,h2|h2⟩
  ·rcases q.gr _ B (kn2 h1) with h|h|h
   ·exact R.sup.cls c x B h ⟨gg,h2⟩
   ·exact noO B ⟨_,h2⟩ h
   ·have:=R.stb B ⟨_,h2⟩;omega
  ·exact q.heap.sup.cls c x B (kn2 h1) ⟨gg,h2⟩
 have X0:Ext w St ι2 w' St2 ι4:=⟨fun gg B h=>.inl h,nm4,heapSt,q.fr.size⟩
 have X':Ext w' St' ι4 w' St2 ι4:=⟨fun gg B h=>.inr h,fun _ _ h=>h,fun _ _=>rfl,Nat.le_refl _⟩
 have ownlt:∀ k B,k<objs.length->isLive (nthO objs k)=true->blkO (ι' k)=some B->(OwnH (nthO x.objs) (reι x.L ι2) B\/X B)\/w.heap.size<=B:=fun k B _ l1 b1=>q.own B ⟨k,l1,b1⟩
 have aptk:∀ k B,k<objs.length->isLive (nthO objs k)=true->blkO (ι' k)=some B->¬An St2 B:=by
  rintro k B hk l1 b1 ⟨gg,h|h⟩
  ·rcases ownlt k B hk l1 b1 with (ho|ho)|ho
   ·obtain⟨n,l2,b2⟩:=L.sub B ho
    exact R2.apt n B l2 b2 ⟨gg,h⟩
   ·exact (hX B ho).2 ⟨gg,h⟩
   ·have:=R.stb B ⟨gg,h⟩
    omega
  ·exact q.heap.apt k B l1 b1 ⟨gg,h⟩
 have hrel:Rel E { s with h:=upds s.h (x.wr++wrP x.L x.n 0 objs) } N a.tmps w' ι4 St2:=by
  refine⟨R.tsz,fun d=>((R2.tmp d).ext X0),fun m=>?_,fun m1 m2 B l1 l2 b1 b2=>?_,fun B h=>?_,fun m B l1 b1=>?_,⟨fun B h=>h.imp (R.sup.up B) (q.heap.sup.up B),cls2,fun q=>(R.sup.glo q).ext X0.noN,fun c x B h=>(q.heap.sup.kn c x B (kn2 h)).ext X'.noN rfl,fun c x c' x' B h h'=>q.heap.sup.one _ _ _ _ _ (kn2 h) (kn2 h')⟩⟩
  ·show RO E w' St2 ι4 (upds s.h _ m) (ι4 m)
   rw[e2]
   rcases case m with ⟨k,hk,rfl⟩|hm
   ·rw[hw k hk,gk k hk]
    exact ((q.heap.obj k).map ok.toEnvOk hg).ext X' (fun _ h=>h) fun _ _ _=>rfl
   ·rw[hno m hm,out4 m hm]
    refine (R2.obj m).ext X0 (fun _ h=>h) fun B l1 b1=>?_
    exact q.fr.same B (oldlt m B l1 b1) fun ho=>ho.elim (apart' m B hm l1 b1) fun h=>R2.apt m B l1 b1 h.an
  ·change isLive (upds s.h _ m1)=true at l1
   change isLive (upds s.h _ m2)=true at l2
   rw[e2] at l1 l2
   rcases case m1 with ⟨k1,hk1,rfl⟩|hm1
   ·rw[hw k1 hk1,mapO_live] at l1
    rw[gk k1 hk1] at b1
    rcases case m2 with ⟨k2,hk2,rfl⟩|hm2
    ·rw[hw k2 hk2,mapO_live] at l2
     rw[gk k2 hk2] at b2
     rw[q.heap.dis k1 k2 B l1 l2 b1 b2]
    ·rw[hno m2 hm2] at l2
     rw[out4 m2 hm2] at b2
     rcases ownlt k1 B hk1 l1 b1 with ho|ho
     ·exact absurd ho (apart' m2 B hm2 l2 b2)
     ·have:=oldlt m2 B l2 b2;omega
   ·rw[hno m1 hm1] at l1
    rw[out4 m1 hm1] at b1
    rcases case m2 with ⟨k2,hk2,rfl⟩|hm2
    ·rw[hw k2 hk2,mapO_live] at l2
     rw[gk k2 hk2] at b2
     rcases ownlt k2 B hk2 l2 b2 with ho|ho
     ·exact absurd ho (apart' m1 B hm1 l1 b1)
     ·have:=oldlt m1 B l1 b1;omega
    ·rw[hno m2 hm2] at l2
     rw[out4 m2 hm2] at b2
     exact R2.dis m1 m2 B l1 l2 b1 b2
  ·obtain⟨gg,h|h⟩:=h
   ·exact Nat.lt_of_lt_of_le (R.stb B ⟨gg,h⟩) q.fr.size
   ·exact q.heap.stb B ⟨gg,h⟩
  ·change isLive (upds s.h _ m)=true at l1
   rw[e2] at l1
   rcases case m with ⟨k,hk,rfl⟩|hm
   ·rw[hw k hk,mapO_live] at l1
    rw[gk k hk] at b1
    exact aptk k B hk l1 b1
   ·rw[hno m hm] at l1
    rw[out4 m hm] at b1
    rintro⟨gg,h|h⟩
    ·exact R2.apt m B l1 b1 ⟨gg,h⟩
    ·rcases q.gr gg B h with h|h|h
     ·exact R2.apt m B l1 b1 ⟨gg,h⟩
     ·exact apart' m B hm l1 b1 h
     ·have:=oldlt m B l1 b1;omega
 have nold:∀ m B,(∀ k,k<objs.length->g k≠m)->isLive (upds s.h x.wr m)=true->blkO (ι2 m)=some B->Own s ι B:=fun m B _ l1 b1=>L.own B ⟨m,l1,b1⟩
 refine⟨ι4,St2,⟨hrel.put' dst hd ((q.val.map ok.toEnvOk hg).ext X'),q.fr.mono fun B _ h=>h.imp (fun h=>h.imp (hO B) id) id,fun m u h=>nm4 m u (L.nm m u h),fun m h=>?_,fun B hB=>?_,fun gg B h=>?_,
  ⟨fun gg B h=>.inl h,fun m u h=>nm4 m u (L.nm m u h),heapSt,q.fr.size⟩⟩,fun B hB h3 h4=>⟨fun h=>?_,?_⟩⟩
 ·by_cases h3:x.n<=m/\m<x.n+(objs.length-x.L.length)
  ·exact .inr ⟨Nat.le_trans L.le h3.1,by omega⟩
  ·have e:ι4 m=ι2 m:=if_neg h3
   rw[e] at h
   rcases L.new m h with h|h
   ·exact .inl h
   ·exact .inr ⟨h.1,by omega⟩
 ·obtain⟨m,l1,b1⟩:=hB
  change isLive (upds s.h _ m)=true at l1
  rw[e2] at l1
  rcases case m with ⟨k,hk,rfl⟩|hm
  ·rw[hw k hk,mapO_live] at l1
   rw[gk k hk] at b1
   exact (ownlt k B hk l1 b1).imp (fun h=>h.imp (hO B) id) id
  ·rw[hno m hm] at l1
   rw[out4 m hm] at b1
   exact .inl (.inl (L.own B ⟨m,l1,b1⟩))
 ·rcases h with h|h
  ·exact .inl h
  ·rcases q.gr gg B h with h|h|h
   ·exact .inl h
   ·exact .inr (.inl (h.imp (hO B) id))
   ·exact .inr (.inr h)
 ·obtain⟨m,l1,b1⟩:=h
  change isLive (upds s.h _ m)=true at l1
  rw[e2] at l1
  rcases case m with ⟨k,hk,rfl⟩|hm
  ·rw[hw k hk,mapO_live] at l1
   rw[gk k hk] at b1
   exact h3 ⟨k,l1,b1⟩
  ·rw[hno m hm] at l1
   rw[out4 m hm] at b1
   exact (hX B hB).1 (L.own B ⟨m,l1,b1⟩)
 ·rintro⟨gg,h|h⟩
  ·exact (hX B hB).2 ⟨gg,h⟩
  ·exact h4 ⟨gg,h⟩
theorem proc_done(ok:EnvOk2 E)(R:Rel E s N a.tmps w ι St)(hf:∀ m,b<=m->m<b+100->ι m=none)(dst:Option Nat)(hd:∀ d,dst=some d->d<N){us:List Value}{x:Laid U}{ι2:Nat->Option Value}(L:LaidOk E s N a.tmps w ι St b us x ι2)
  (hn:x.n<=b+100) (hL:∀ m∈x.L,m<x.n\/b+100<=m) {K:A U->List (AObj U)->Prop} {v:Value} {w':World} {r:A U} {objs:List (AObj U)} {ι':Nat->Option Value} {St':Ck U->Nat->Prop}
  (q:ResP E w St (OwnH (nthO x.objs) (reι x.L ι2)) (reι x.L ι2) x.objs.length K v w' r objs ι' St') (h1:x.L.length<=objs.length) (h2:x.n+(objs.length-x.L.length)<=b+100) :
  ∃ ι4 St2,Stp E s N w ι St b dst (x.wr++wrP x.L x.n 0 objs) (mapA (unr x.L x.n) r) (a.put dst v).tmps w' ι4 St2:=by
 obtain⟨ι4,St2,k,-⟩:=proc_doneX ok R hf dst hd L hn hL (X:=fun _=>False) (fun _ h=>h.elim) (K:=K) (v:=v) (w':=w') (r:=r) (objs:=objs) (ι':=ι') (St':=St')
  ⟨q.k,q.val,q.heap,q.out,q.old,q.fr.mono fun B _ h=>h.imp .inl id,fun B hB=>(q.own B hB).imp .inl id,fun g B hB=>(q.gr g B hB).imp id fun h=>h.imp .inl id,q.kn⟩ h1 h2
 exact⟨ι4,St2,k.rel,k.fr.mono fun B _ h=>h.imp (fun h=>h.resolve_right id) id,k.nm,k.new,fun B hB=>(k.own B hB).imp (fun h=>h.resolve_right id) id,fun g B hB=>(k.gr g B hB).imp id fun h=>h.imp (fun h=>h.resolve_right id) id,fun c x B h=>k.ext.st _ _ h⟩
theorem proc_step(ok:EnvOk2 E){T:Tab U}(TS:TSound E T)(R:Rel E s N a.tmps w ι St)(hf:∀ m,b<=m->m<b+100->ι m=none)(hd:∀ d,o.dst=some d->d<N){f:FuncId}(hblt:Nat.blt f 1000000=true)(hpr:memN f E.procs=true){args:List (A U)}{vals:Array Value}
  (hrv:args.all known=true->RVs E w St ι args vals.toList) {x:Laid U} (hx:layG s.h b [] args=some x) {sV:S U} (hg:∀ m∈x.L1++x.L,sV.h m=s.h m) {K:S U->Prop} (hc:callP T b sV o.dst f args K) (hdf:∀ c,o.op≠.defer c)
  (hrun:∀ fn body,E.P.funcs[f]?=some fn->fn.body=some body->(fn.name == "runtime.NumGoroutine")=false->(execOp a.eval o).run E.P w=.ok (.enter f vals) w)
  {next:Act->World->Prop} {Q:Exit->Act->World->Prop} (h:∀ wr v u w' ι' St',K (sV.put wr o.dst v)->(∀ y∈wr,y.1∈x.L1++x.L\/(b<=y.1/\y.1<b+100))->Stp E s N w ι St b o.dst wr v (a.put o.dst u).tmps w' ι' St'->next (a.put o.dst u) w') :
  o.wpIn (FR ro) 0 E.P a w next Q:=by
 unfold callP at hc
 rw[layG_congr hx hg] at hc
 simp only[] at hc
 cases hk:args.all known with
 | false=>rw[hk] at hc;exact hc.elim
 | true=>
  rw[hk] at hc
  simp only[cond_true] at hc
  cases hb:(Nat.ble x.n (b+100)&&x.L.all fun m=>Nat.blt m x.n||Nat.ble (b+100) m) with
  | false=>rw[hb] at hc;exact hc.elim
  | true=>
   rw[hb] at hc
   simp only[cond_true] at hc
   simp only[Bool.and_eq_true,Nat.ble_eq,List.all_eq_true,Bool.or_eq_true,Nat.blt_eq] at hb
   obtain⟨hn,hL⟩:=hb
   obtain⟨⟨fn,f1,f2,f3⟩,f4⟩:=((TS f _ _ _ hc).1 hblt).2 hpr
   obtain⟨body,f2⟩:=Option.isSome_iff_exists.1 f2
   have hrun:=hrun fn body f1 f2 f3
   have hrv:=hrv hk
   obtain⟨ι2,L⟩:=layG_ok ok R hx (hrv.holds hk) (fun q hq=>noTup_known (by simpa using (List.all_eq_true.1 hk) q hq)) (fun m h5 h6=>hf m h5 (Nat.lt_of_lt_of_le h6 hn))
   have hnt:∀ q∈x.vals,noTup q=true:=by
    exact layG_noTup hx fun q hq=>noTup_known (by simpa using (List.all_eq_true.1 hk) q hq)
   have hcall:=f4 w St (reι x.L ι2) _ (L.vals.rvs hnt) L.heap (fun m hm=>L.out m (by rw[L.len] at hm;exact hm))
   refine⟨fun _ _=>trivial,?_⟩
   rw[Oper.semAt_eq _ _ _ hdf,hrun,Oper.uponIn_enter]
   refine⟨fun h=>absurd h (by simp),callsIn_FR ?_⟩
   refine Calls.mono hcall fun e w' he=>?_
   obtain⟨r,v,objs,ι',St',rfl,q⟩:=he
   have hkk:=q.k
   cases hb2:(Nat.ble x.L.length objs.length&&Nat.ble (x.n+(objs.length-x.L.length)) (b+100)) with
   | false=>rw[hb2] at hkk;exact hkk.elim
   | true=>
    rw[hb2] at hkk
    simp only[cond_true] at hkk
    simp only[Bool.and_eq_true,Nat.ble_eq] at hb2
    obtain⟨ι4,St2,hs⟩:=proc_done ok R hf o.dst hd L hn hL q hb2.1 hb2.2
    refine h _ _ v w' ι4 St2 hkk (fun y hy=>?_) hs
    rcases List.mem_append.1 hy with hy|hy
    ·rcases layG_names hx y hy with h|h
     ·exact .inl (List.mem_append_left _ h)
     ·exact .inr ⟨h.1,by omega⟩
    ·obtain⟨i,i1,i2,i3⟩:=wrP_names 0 objs y hy
     by_cases hi:i<x.L.length
     ·have:=List.mem_of_getElem? (unr_lt (n:=x.n) hi)
      rw[i3]
      exact .inl (List.mem_append_right _ this)
     ·rw[i3,unr_ge (Nat.le_of_not_lt hi)]
      have:=L.le
      exact .inr ⟨by omega,by omega⟩
theorem anyBox_false{h:Nat->AObj U}:∀ {l:List Nat},anyBox h l=false->∀ m∈l,isBox (h m)=false
 | n::l,h1,m,hm=>by
  simp only[anyBox,Bool.or_eq_false_iff] at h1
  rcases List.mem_cons.1 hm with rfl|hm
  ·exact h1.1
  ·exact anyBox_false h1.2 m hm
theorem anyBox_congr{h h':Nat->AObj U}:∀ {l:List Nat},(∀ m∈l,h' m=h m)->anyBox h' l=anyBox h l
 | [],_=>rfl
 | n::l,e=>by
  have:=anyBox_congr (l:=l) fun m hm=>e m (List.mem_cons_of_mem _ hm)
  simp only[anyBox,e n (by simp),this]
mutual
theorem agrA_eq:∀ (a b:A U),agrA a b->a=b
 | .int k n,b,h=>by
  cases b with
  | int k' m=>
   have h:cond (decide (k=k')) (n=m) False:=h
   cases hk:decide (k=k') with
   | false=>rw[hk] at h;exact h.elim
   | true=>rw[hk,cond_true] at h;rw[of_decide_eq_true hk,h]
  | _=>exact False.elim h
 | .bool a,b,h=>by cases b with|bool b=>exact congrArg A.bool h|_=>exact False.elim h
 | .str a,b,h=>by cases b with|str b=>exact congrArg A.str h|_=>exact False.elim h
 | .nilp,b,h=>by cases b with|nilp=>rfl|_=>exact False.elim h
 | .nilf,b,h=>by cases b with|nilf=>rfl|_=>exact False.elim h
 | .agg l,b,h=>by cases b with|agg m=>exact congrArg A.agg (agrAs_eq l m h)|_=>exact False.elim h
 | .arr c n l,b,h=>by
  cases b with
  | arr c' n' m=>
   have h2:cond (Nat.beq n n') (if h:c=c' then (h▸l)=m else False) False:=h
   clear h
   cases hn:Nat.beq n n' with
   | false=>rw[hn] at h2;exact h2.elim
   | true=>
    rw[hn,cond_true] at h2
    have:=Nat.eq_of_beq_eq_true hn
    subst this
    by_cases hc:c=c'
    ·subst hc;rw[dif_pos rfl] at h2;exact congrArg (A.arr c n) h2
    ·rw[dif_neg hc] at h2;exact h2.elim
  | _=>exact False.elim h
 | .ro g c l,b,h=>by
  cases b with
  | ro g' c' m=>
   have h2:cond (g==g') (if h:c=c' then (h▸l)=m else False) False:=h
   clear h
   cases hb:(g==g') with
   | false=>rw[hb] at h2;exact h2.elim
   | true=>
    rw[hb,cond_true] at h2
    have:=beq_iff_eq.1 hb
    subst this
    by_cases hc:c=c'
    ·subst hc;rw[dif_pos rfl] at h2;exact congrArg (A.ro g c) h2
    ·rw[dif_neg hc] at h2;exact h2.elim
  | _=>exact False.elim h
 | .own n,b,h=>by
  cases b with
  | own m=>
   have h:cond (Nat.beq n m) True False:=h
   cases hn:Nat.beq n m with
   | false=>rw[hn] at h;exact h.elim
   | true=>rw[Nat.eq_of_beq_eq_true hn]
  | _=>exact False.elim h
 | .nils ..,b,h|.clip ..,b,h|.usl ..,b,h|.sub ..,b,h|.bsl ..,b,h|.ptr ..,b,h|.yld ..,b,h|.rp ..,b,h|.clo ..,b,h|.tup ..,b,h|.none,b,h|.tr ..,b,h|.gh ..,b,h=>by cases b<;>exact False.elim h
theorem agrAs_eq:∀ (l m:List (A U)),agrAs l m->l=m
 | [],m,h=>by cases m with|nil=>rfl|cons _ _=>exact False.elim h
 | a::l,m,h=>by
  cases m with
  | nil=>exact False.elim h
  | cons b m=>
   have h:agrA a b/\agrAs l m:=h
   rw[agrA_eq a b h.1,agrAs_eq l m h.2]
end
theorem agrO_eq{a b:AObj U}(h:agrO a b):a=b:=by
 cases a with
 | dead=>cases b with|dead=>rfl|_=>exact False.elim h
 | box a=>cases b with|box b=>exact congrArg AObj.box (agrA_eq a b h)|_=>exact False.elim h
 | lst c l=>
  cases b with
  | lst c' m=>
   have h:(if h:c=c' then (h▸l)=m else False):=h
   by_cases hc:c=c'
   ·subst hc;rw[dif_pos rfl] at h;exact congrArg (AObj.lst c) h
   ·rw[dif_neg hc] at h;exact h.elim
  | _=>exact False.elim h
 | fz c l=>
  cases b with
  | fz c' m=>
   have h:(if h:c=c' then (h▸l)=m else False):=h
   by_cases hc:c=c'
   ·subst hc;rw[dif_pos rfl] at h;exact congrArg (AObj.fz c) h
   ·rw[dif_neg hc] at h;exact h.elim
  | _=>exact False.elim h
 | lp=>cases b<;>exact False.elim h
theorem agrW_over{h h' g:Nat->AObj U}:∀ {l:List (Nat×AObj U)},(∀ x∈l,h x.1=h' x.1)->agrW h l->(∀ m,m∉l.map (·.1)->g m=h' m)->upds g l=h'
 | [],_,_,k=>funext fun m=>k m (by simp)
 | x::l,e,q,k=>by
  have q:agrO x.2 (h x.1)/\agrW h l:=q
  obtain⟨n,o⟩:=x
  have h1:o=h' n:=(agrO_eq q.1).trans (e _ (by simp))
  show upds (upd g n o) l=h'
  refine agrW_over (fun y hy=>e y (List.mem_cons_of_mem _ hy)) q.2 fun m hm=>?_
  by_cases hmn:m=n
  ·subst hmn;rw[upd_same,h1]
  ·rw[upd_ne _ _ hmn]
   exact k m (by simp only[List.map_cons,List.mem_cons,not_or];exact⟨hmn,hm⟩)
theorem upds_out(g:Nat->AObj U)(m:Nat):∀ (l:List (Nat×AObj U)),(∀ y∈l,y.1≠m)->upds g l m=g m
 | l,h=>by
  induction l generalizing g with
  | nil=>rfl
  | cons x l ih=>
   show upds (upd g x.1 x.2) l m=g m
   rw[ih _ fun y hy=>h y (List.mem_cons_of_mem _ hy),upd_ne _ _ fun e=>h x (by simp) e.symm]
theorem wrP_has{L:List Nat}{n:Nat}:∀ (l:List (AObj U)) (k i:Nat),k<=i->i<k+l.length->unr L n i∈(wrP L n k l).map (·.1)
 | [],k,i,h1,h2=>by simp at h2;omega
 | o::l,k,i,h1,h2=>by
  simp only[wrP,List.map_cons,List.mem_cons]
  by_cases e:i=k
  ·subst e;exact .inl rfl
  ·exact .inr (wrP_has l (k+1) i (by omega) (by simp at h2;omega))
theorem wrP_split(L:List Nat)(n:Nat):∀ (k:Nat) (l m:List (AObj U)),wrP L n k (l++m)=wrP L n k l++wrP L n (k+l.length) m
 | k,[],m=>by simp[wrP]
 | k,o::l,m=>by
  simp only[List.cons_append,wrP,wrP_split L n (k+1) l m,List.length_cons]
  rw[show k+1+l.length=k+(l.length+1) by omega]
theorem proc_read(ok:EnvOk2 E){T:Tab U}(TS:TSound E T)(R:Rel E s N a.tmps w ι St)(hf:∀ m,b<=m->m<b+100->ι m=none)(hd:∀ d,o.dst=some d->d<N){f:FuncId}(hblt:Nat.blt f 1000000=true)(hpr:memN f E.procs=true){args:List (A U)}{vals:Array Value}
  (hrv:args.all known=true->RVs E w St ι args vals.toList) {x:Laid U} (hx:layG s.h b [] args=some x) {sV:S U} (hg:∀ m∈x.L1++x.L,sV.h m=s.h m) {K:S U->Prop} (hc:callR T b sV o.dst f args K) (hdf:∀ c,o.op≠.defer c)
  (hrun:∀ fn body,E.P.funcs[f]?=some fn->fn.body=some body->(fn.name == "runtime.NumGoroutine")=false->(execOp a.eval o).run E.P w=.ok (.enter f vals) w)
  {next:Act->World->Prop} {Q:Exit->Act->World->Prop} (h:∀ wr v u w' ι' St',K (sV.put wr o.dst v)->(∀ y∈wr,b<=y.1/\y.1<b+100)->Stp E s N w ι St b o.dst wr v (a.put o.dst u).tmps w' ι' St'->next (a.put o.dst u) w') :
  o.wpIn (FR ro) 0 E.P a w next Q:=by
 unfold callR at hc
 rw[layG_congr hx hg] at hc
 simp only[] at hc
 cases hk:args.all known with
 | false=>rw[hk] at hc;exact hc.elim
 | true=>
  rw[hk] at hc
  simp only[cond_true] at hc
  cases hb:((x.wr.all fun y=>memN y.1 x.L)&&(Nat.ble x.n (b+100)&&x.L.all fun m=>Nat.blt m x.n||Nat.ble (b+100) m)) with
  | false=>rw[hb] at hc;exact hc.elim
  | true=>
   rw[hb] at hc
   simp only[cond_true] at hc
   simp only[Bool.and_eq_true,Nat.ble_eq,List.all_eq_true,Bool.or_eq_true,Nat.blt_eq] at hb
   obtain⟨hwr,hn,hL⟩:=hb
   obtain⟨⟨fn,f1,f2,f3⟩,f4⟩:=((TS f _ _ _ hc).1 hblt).2 hpr
   obtain⟨body,f2⟩:=Option.isSome_iff_exists.1 f2
   have hrun:=hrun fn body f1 f2 f3
   have hrv:=hrv hk
   obtain⟨ι2,L⟩:=layG_ok ok R hx (hrv.holds hk) (fun q hq=>noTup_known (by simpa using (List.all_eq_true.1 hk) q hq)) (fun m h5 h6=>hf m h5 (Nat.lt_of_lt_of_le h6 hn))
   have hnt:∀ q∈x.vals,noTup q=true:=by
    exact layG_noTup hx fun q hq=>noTup_known (by simpa using (List.all_eq_true.1 hk) q hq)
   have hcall:=f4 w St (reι x.L ι2) _ (L.vals.rvs hnt) L.heap (fun m hm=>L.out m (by rw[L.len] at hm;exact hm))
   refine⟨fun _ _=>trivial,?_⟩
   rw[Oper.semAt_eq _ _ _ hdf,hrun,Oper.uponIn_enter]
   refine⟨fun h=>absurd h (by simp),callsIn_FR ?_⟩
   refine Calls.mono hcall fun e w' he=>?_
   obtain⟨r,v,objs,ι',St',rfl,q⟩:=he
   have hkk:=q.k
   cases hb2:(Nat.ble x.L.length objs.length&&Nat.ble (x.n+(objs.length-x.L.length)) (b+100)) with
   | false=>rw[hb2] at hkk;exact hkk.elim
   | true=>
    rw[hb2] at hkk
    simp only[cond_true] at hkk
    simp only[Bool.and_eq_true,Nat.ble_eq] at hb2
    obtain⟨ι4,St2,hs⟩:=proc_done ok R hf o.dst hd L hn hL q hb2.1 hb2.2
    have hsp:x.wr++wrP x.L x.n 0 objs=(x.wr++wrP x.L x.n 0 (objs.take x.L.length))++wrP x.L x.n x.L.length (objs.drop x.L.length):=by
     have h1:=wrP_split x.L x.n 0 (objs.take x.L.length) (objs.drop x.L.length)
     rw[List.take_append_drop,List.length_take,Nat.min_eq_left hb2.1,Nat.zero_add] at h1
     rw[h1,List.append_assoc]
    have hold:∀ y∈wrP x.L x.n 0 (objs.take x.L.length),sV.h y.1=s.h y.1:=by
     intro y hy
     obtain⟨i,i1,i2,i3⟩:=wrP_names 0 _ y hy
     rw[List.length_take,Nat.min_eq_left hb2.1] at i2
     rw[i3]
     exact hg _ (List.mem_append_right _ (List.mem_of_getElem? (unr_lt (n:=x.n) (by omega))))
    have hup:upds s.h (x.wr++wrP x.L x.n 0 (objs.take x.L.length))=s.h:=by
     rw[upds_append]
     refine agrW_over hold hkk.1 fun m hm=>upds_out _ _ _ fun y hy e=>hm ?_
     have h1:=memN_iff.1 (hwr y hy)
     rw[e] at h1
     obtain⟨i,hi,rfl⟩:=List.getElem_of_mem h1
     have h2:=wrP_has (L:=x.L) (n:=x.n) (objs.take x.L.length) 0 i (Nat.zero_le _) (by rw[List.length_take];omega)
     rw[show unr x.L x.n i=x.L[i] by have:=unr_lt (n:=x.n) hi;rw[List.getElem?_eq_getElem hi] at this;exact (Option.some.inj this).symm] at h2
     exact h2
    have hst:s.put (x.wr++wrP x.L x.n 0 objs) o.dst (mapA (unr x.L x.n) r)=s.put (wrP x.L x.n x.L.length (objs.drop x.L.length)) o.dst (mapA (unr x.L x.n) r):=by
     unfold S.put
     rw[hsp,upds_append,hup]
    refine h _ _ v w' ι4 St2 hkk.2 (fun y hy=>?_) ⟨by rw[<-hst];exact hs.rel,hs.fr,hs.nm,hs.new,by rw[<-hst];exact hs.own,hs.gr,hs.kn⟩
    obtain⟨i,i1,i2,i3⟩:=wrP_names _ _ y hy
    rw[List.length_drop] at i2
    rw[i3,unr_ge i1]
    have:=L.le
    exact⟨by omega,by omega⟩
theorem blt_up{f a b:Nat}(h:Nat.blt f a=true)(hab:a<=b):Nat.blt f b=true:=by rw[Nat.blt_eq] at h ⊢;omega
theorem blt_off{a b g:Nat}(h:a<=b):Nat.blt (g+b) a=false:=by
 cases h2:Nat.blt (g+b) a with
 | false=>rfl
 | true=>rw[Nat.blt_eq] at h2;omega
theorem wrOf_call{f:FuncId}{args:List (A U)}{look:List Nat}(h:Nat.blt f 1000000=true):wrOf (Plan.call f args look)=look:=by
 have h2:=blt_up (b:=2000000) h (by decide)
 unfold wrOf
 simp only[h2,cond_true]
theorem mod_off{g:Nat}(h:Nat.blt g 1000000=true):(g+2000000) % 1000000=g:=by
 rw[Nat.blt_eq] at h
 rw[show g+2000000=g+1000000+1000000 by omega,Nat.add_mod_right,Nat.add_mod_right]
 exact Nat.mod_eq_of_lt h
theorem callK_reads{f g:FuncId}{T:Tab U}{b:Nat}{s:S U}{d:Option Nat}{args:List (A U)}{K:S U->Prop}(hfg:f=g+2000000)(hg:Nat.blt g 1000000=true)(hc:callK E T b s d f args K):callR T b s d g args K:=by
 have h1:Nat.blt f 1000000=false:=by rw[hfg];exact blt_off (by decide)
 have h2:Nat.blt f 2000000=false:=by rw[hfg];exact blt_off (Nat.le_refl _)
 have h3:f % 1000000=g:=by rw[hfg];exact mod_off hg
 unfold callK at hc
 rw[h1,cond_false,h2,cond_false,h3] at hc
 cases hb:(Nat.blt g 1000000&&(memN g E.procs&&!memN g E.lends)) with
 | false=>rw[hb] at hc;exact hc.elim
 | true=>rw[hb,cond_true] at hc;exact hc
theorem call_step(ok:EnvOk2 E){T:Tab U}(TS:TSound E T)(R:Rel E s N a.tmps w ι St)(hf:∀ m,b<=m->m<b+100->ι m=none)(hd:∀ d,o.dst=some d->d<N){f:FuncId}{args:List (A U)}{look:List Nat}(hp:plan E b o s=.call f args look)
  {sV:S U} (hg:∀ m∈look,sV.h m=s.h m) {K:S U->Prop} (hc:callK E T b sV o.dst f args K)
  {next:Act->World->Prop} {Q:Exit->Act->World->Prop} (h:∀ wr v u w' ι' St',K (sV.put wr o.dst v)->(∀ x∈wr,x.1∈wrOf (Plan.call f args look)\/(b<=x.1/\x.1<b+100))->Stp E s N w ι St b o.dst wr v (a.put o.dst u).tmps w' ι' St'->next (a.put o.dst u) w') :
  o.wpIn (FR ro) 0 E.P a w next Q:=by
 obtain⟨c,g,g0,caps,ho,hcal,hev,hbl,hfg,hA,hlk1,hlk2,hlk3⟩:=call_plan hp
 replace hA:=hA.symm
 have hclo:=ev_ok ok R 0 g
 rw[hev] at hclo
 obtain⟨vs,h1,h2,h3⟩:=RV.clo_inv hclo
 have hrv0:args.all known=true->RVs E w St ι args (mvs g0 (c.args.map a.eval) vs).toList:=by
  intro hk
  rw[<-hA] at hk ⊢
  unfold margs at hk ⊢
  unfold mvs
  cases hg0:Nat.blt g0 1000000 with
  | true=>
   rw[hg0,cond_true,List.all_append,Bool.and_eq_true] at hk
   have:=RVs.append (args_known ok R c.args.toList c.argTypes.toList hk.1) (RVs.of_flat ok.toEnvOk h2 h3)
   simpa using this
  | false=>
   rw[hg0,cond_false,List.all_append,Bool.and_eq_true] at hk
   have:=RVs.append (RVs.of_flat ok.toEnvOk h2 h3) (args_known ok R c.args.toList c.argTypes.toList hk.2)
   simpa using this
 rcases hfg with hfg|⟨hfg,hpr,hle⟩
 case inr=>
  have hblt:=hbl
  have hc:=callK_reads hfg hbl hc
  obtain⟨x,hx,hlk⟩:=hlk2 hpr hle
  subst hlk
  exact proc_read ok TS R hf hd hblt hpr hrv0 hx hg hc (plan_defer (by rw[hp];simp)) (fun fn body f1 f2 f3=>call_run (w:=w) hcal ho h1 f1 f2 f3) (fun wr v u w' ι' St' hk hn hs=>h wr v u w' ι' St' hk (fun y hy=>.inr (hn y hy)) hs)
 subst hfg
 unfold callK at hc
 simp only[] at hc
 have hblt:=hbl
 rw[hblt] at hc
 simp only[cond_true] at hc
 replace h:∀ (wr:List (Nat×AObj U)) (v:A U) (u:Value) (w':World) (ι':Nat->Option Value) (St':Ck U->Nat->Prop),K (sV.put wr o.dst v)->(∀ x∈wr,x.1∈look\/(b<=x.1/\x.1<b+100))->Stp E s N w ι St b o.dst wr v (a.put o.dst u).tmps w' ι' St'->next (a.put o.dst u) w':=
  fun wr v u w' ι' St' hk hn hs=>h wr v u w' ι' St' hk (by rw[wrOf_call hblt];exact hn) hs
 cases hpr:memN (mfn g0) E.procs with
 | true=>
  rw[hpr] at hc
  simp only[cond_true] at hc
  cases hle:memN (mfn g0) E.lends with
  | false=>
   rw[hle] at hc
   simp only[cond_false] at hc
   obtain⟨x,hx,hlk⟩:=hlk2 hpr hle
   subst hlk
   exact proc_step ok TS R hf hd hblt hpr hrv0 hx hg hc (plan_defer (by rw[hp];simp)) (fun fn body f1 f2 f3=>call_run (w:=w) hcal ho h1 f1 f2 f3) h
  | true=>
   rw[hle] at hc
   simp only[cond_true] at hc
   obtain⟨x,hx,hlk⟩:=hlk3 hpr hle
   unfold callL at hc
   simp only[] at hc
   rw[lendAll_congr args s.h sV.h (fun m hm=>hg m (by rw[hlk];exact List.mem_append_left _ hm))] at hc
   cases hho:holes (lendAll E s.h args).1 with
   | true=>rw[hho] at hc;exact hc.elim
   | false=>
    rw[hho] at hc
    simp only[cond_false] at hc
    cases hk1:(lendAll E s.h args).1.all known with
    | false=>
     unfold callP at hc
     rw[hk1] at hc
     exact hc.elim
    | true=>
     obtain⟨St1,x1,g1,R1,l1,d1⟩:=lendAll_ok ok args (h:=s.h) R (hrv0 (lendAll_known args s.h hk1)) hk1 hho
     refine proc_step (s:={ s with h:=upds s.h (lendAll E s.h args).2 }) ok TS R1 hf hd hblt hpr (fun _=>d1) hx (sV:={ sV with h:=upds sV.h (lendAll E s.h args).2 })
      (fun m hm=>updsC _ _ _ (hg m (by rw[hlk];exact List.mem_append_right _ hm))) hc (plan_defer (by rw[hp];simp)) (fun fn body f1 f2 f3=>call_run (w:=w) hcal ho h1 f1 f2 f3)
      fun wr v u w' ι' St' hK hwr hs=>h ((lendAll E s.h args).2++wr) v u w' ι' St' ?_ ?_ ?_
     ·have e:({ sV with h:=upds sV.h (lendAll E s.h args).2 }:S U).put wr o.dst v=sV.put ((lendAll E s.h args).2++wr) o.dst v:=by
       simp only[S.put,upds_append]
      rw[<-e];exact hK
     ·intro y hy
      rcases List.mem_append.1 hy with hy|hy
      ·exact .inl (by rw[hlk];exact List.mem_append_left _ (lendAll_names args s.h y hy))
      ·exact (hwr y hy).imp (fun h=>by rw[hlk];exact List.mem_append_right _ h) id
     ·have e:({ s with h:=upds s.h (lendAll E s.h args).2 }:S U).put wr o.dst v=s.put ((lendAll E s.h args).2++wr) o.dst v:=by
       simp only[S.put,upds_append]
      have ow:∀ B,Own { s with h:=upds s.h (lendAll E s.h args).2 } ι B->Own s ι B:=fun B ⟨n,h1,h2⟩=>⟨n,l1 n h1,h2⟩
      refine⟨e▸hs.rel,hs.fr.mono fun B _ h=>h.elim (fun h=>.inl (ow B h)) fun ⟨c,x,h⟩=>(g1 _ B h).elim (fun h=>.inr ⟨c,x,h⟩) .inl,hs.nm,hs.new,fun B hB=>(hs.own B (e▸hB)).imp (ow B) id,fun g B hB=>?_,fun c x B h=>hs.kn c x B (x1.st _ _ h)⟩
      rcases hs.gr g B hB with h|h|h
      ·exact (g1 g B h).imp id .inl
      ·exact .inr (.inl (ow B h))
      ·exact .inr (.inr h)
 | false=>
 rw[hpr] at hc
 simp only[cond_false] at hc
 obtain rfl:=hlk1 hpr
 rw[inAs_congr args hg,fzOf_congr _ hg,anyBox_congr hg] at hc
 cases hb1:((ptrss args).isEmpty&&!holes (inAs E s.h [] args)) with
 | false=>rw[hb1] at hc;exact hc.elim
 | true=>
  rw[hb1] at hc
  simp only[cond_true] at hc
  simp only[Bool.and_eq_true,Bool.not_eq_true',List.isEmpty_iff] at hb1
  obtain⟨⟨fn,f1,f2,f3⟩,f4⟩:=((TS (mfn g0) _ _ _ hc).1 hblt).1 hpr rfl
  obtain⟨body,f2⟩:=Option.isSome_iff_exists.1 f2
  have hrun:=call_run (w:=w) hcal ho h1 f1 f2 f3
  have hrv:RVs E w (StC s St ι (ownss args)) noNm (inAs E s.h [] args) (mvs g0 (c.args.map a.eval) vs).toList:=by
   refine RVs.ins ok R _ ?_ hb1.2 hb1.1 (fun m hm=>hm)
   have hh:=hb1.2
   rw[<-hA] at hh ⊢
   have e:∀ l m:List (A U),inAs E s.h [] (l++m)=inAs E s.h [] l++inAs E s.h [] m:=by
    intro l m
    induction l with
    | nil=>rfl
    | cons x l ih=>simp[inAs,ih]
   have e2:∀ l m:List (A U),holes (l++m)=(holes l||holes m):=by
    intro l m
    induction l with
    | nil=>simp[holes]
    | cons x l ih=>simp[holes,ih,Bool.or_assoc]
   unfold margs at hh ⊢
   unfold mvs
   cases hg0:Nat.blt g0 1000000 with
   | true=>
    rw[hg0,cond_true,e,e2,Bool.or_eq_false_iff] at hh
    have:=RVs.append (args_rvs ok R c.args.toList c.argTypes.toList hh.1) (RVs.of_flat ok.toEnvOk h2 h3)
    simpa using this
   | false=>
    rw[hg0,cond_false,e,e2,Bool.or_eq_false_iff] at hh
    have:=RVs.append (RVs.of_flat ok.toEnvOk h2 h3) (args_rvs ok R c.args.toList c.argTypes.toList hh.2)
    simpa using this
  have hcall:=f4 w (StC s St ι (ownss args)) _ hrv (fun B ⟨gg,hB⟩=>?_) ⟨fun B hB=>.inl ⟨false,by simpa[StC] using hB⟩,fun c x B h1 ⟨gg,h2⟩=>(by
   cases gg
   ·exact R.sup.cls c x B h1 ⟨false,h2⟩
   ·rcases h2 with h2|⟨m,h3,h4,h5⟩
    ·exact R.sup.cls c x B h1 h2
    ·exact R.apt m B (by cases hm:s.h m<;>rw[hm] at h4<;>simp_all [isMem,isBox,isLst,isLive]) h5 ⟨_,h1⟩),fun g=>⟨RT.lent (St:=St) (St':=StC s St ι (ownss args)) ok.toEnvOk (ok.glob g).1 (ok.glob g).2 (fun B hB=>by simpa[StC] using hB) (fun _ _ _ h=>h) (R.sup.glo g).1,(R.sup.glo g).2⟩,
    fun c x B h=>(R.sup.kn c x B h).ext ⟨StC.any,fun _ _ h=>h,fun _ _=>rfl,Nat.le_refl _⟩ rfl,fun c x c' x' B h h'=>R.sup.one c x c' x' B h h'⟩
  ·refine⟨fun _ _=>trivial,?_⟩
   rw[Oper.semAt_eq _ _ _ (plan_defer (by rw[hp];simp)),hrun,Oper.uponIn_enter]
   refine⟨fun h=>absurd h (by simp),callsIn_FR ?_⟩
   refine Calls.mono hcall fun e w' he=>?_
   obtain⟨r,v,bs,St',rfl,q⟩:=he
   have hk:=q.k
   simp only[] at hk
   cases hb2:((ptrs r).isEmpty&&(Nat.ble (nameA [] b r b).2.2 (b+100)&&!(loan r&&anyBox s.h (ownss args)))) with
   | false=>rw[hb2] at hk;exact hk.elim
   | true=>
    rw[hb2] at hk
    simp only[cond_true] at hk
    simp only[Bool.and_eq_true,List.isEmpty_iff] at hb2
    have hM:=Nat.le_of_ble_eq_true hb2.2.1
    have hbx:loan r=true->∀ m∈ownss args,isBox (s.h m)=false:=fun hl m hm=>by
     have h9:=hb2.2.2
     rw[hl,Bool.true_and,Bool.not_eq_true'] at h9
     exact anyBox_false h9 m hm
    obtain⟨ι',St2,hs⟩:=call_done ok R hf o.dst hd q hb2.1 hM hbx
    refine h _ _ v w' ι' St2 hk (fun x hx=>?_) hs
    rcases List.mem_append.1 hx with hx|hx
    ·cases hl:loan r with
     | false=>rw[hl] at hx;simp at hx
     | true=>rw[hl] at hx;exact .inl (fzOf_names _ x hx)
    ·have:=nameA_names b r b x hx
     exact .inr ⟨this.1,by omega⟩
  ·rcases gg with (- | -)|⟨c,x⟩
   rotate_right
   ·exact R.stb B ⟨.kn c x,hB⟩
   ·exact R.stb B ⟨.on false,hB⟩
   ·rcases hB with hB|⟨m,h1,h2,h3⟩
    ·exact R.stb B hB.an
    ·exact R.lt m B (by cases hm:s.h m<;>rw[hm] at h2<;>simp_all [isMem,isBox,isLst,isLive]) h3
end
end Go.V

set_option linter.unusedVariables false
set_option linter.unusedSimpArgs false
namespace Go.V
variable {U:Nat->Type}
section
variable {E:Env U} {w:World} {St:Ck U->Nat->Prop} {ι:Nat->Option Value} {s:S U} {N:Nat} {a:Act} {b:Nat} {o:Oper} {ro:Option Nat}
theorem fold_get:∀ (ps:List Nat) (vs:List Value) (tm:Array Value),ps.Nodup->(∀ p∈ps,p<tm.size)->ps.length=vs.length →
  ((ps.zip vs).foldl (fun (t:Array Value) (x:Nat×Value)=>t.setIfInBounds x.1 x.2) tm).size=tm.size ∧
  (ps.map fun d=>((ps.zip vs).foldl (fun (t:Array Value) (x:Nat×Value)=>t.setIfInBounds x.1 x.2) tm).getD d undef)=vs ∧
  ∀ d,d∉ps->((ps.zip vs).foldl (fun (t:Array Value) (x:Nat×Value)=>t.setIfInBounds x.1 x.2) tm).getD d undef=tm.getD d undef
 | [],[],tm,_,_,_=>⟨rfl,rfl,fun _ _=>rfl⟩
 | [],_::_,tm,_,_,h=>by simp at h
 | _::_,[],tm,_,_,h=>by simp at h
 | p::ps,v::vs,tm,hn,hl,h=>by
  simp only[List.nodup_cons] at hn
  obtain⟨h1,h2,h3⟩:=fold_get ps vs (tm.setIfInBounds p v) hn.2 (fun q hq=>by simpa using hl q (by simp[hq])) (by simpa using h)
  simp only[List.zip_cons_cons,List.foldl_cons]
  refine⟨by rw[h1];simp,?_,fun d hd=>?_⟩
  ·simp only[List.map_cons,h2,List.cons.injEq,and_true]
   rw[h3 p hn.1,getD_put,if_pos ⟨rfl,hl p (by simp)⟩]
  ·simp only[List.mem_cons,not_or] at hd
   rw[h3 d hd.2,getD_put,if_neg fun x=>hd.1 x.1.symm]
theorem yield_plan{n f id:Nat}{vals args:List (A U)}{look:List Nat}(hp:plan E b o s=.yield n f id vals args look):∃ c g,o.op=.call c/\c.callee=.value g/\s.ev E 0 g=.yld n/\(∃ live,s.h n=.lp f id live vals 0) ∧
  args=evArgs E s c.args.toList c.argTypes.toList/\∃ x,layG s.h b [] (args++vals)=some x/\look=n::(x.L1++x.L):=by
 have nolen:∀ t x,lenV E s t x≠.yield n f id vals args look:=by
  intro t x h;revert h;unfold lenV;intro h;(repeat' split at h)<;>cases h
 have noapp:∀ t u x y,appendV E s b t u x y≠.yield n f id vals args look:=by
  intro t u x y h;revert h;unfold appendV;simp only[Bool.cond_eq_ite];intro h;(repeat' split at h)<;>cases h
 have nocall:∀ c,callV E s b c=.yield n f id vals args look->∃ g,c.callee=.value g/\s.ev E 0 g=.yld n/\(∃ live,s.h n=.lp f id live vals 0) ∧
   args=evArgs E s c.args.toList c.argTypes.toList/\∃ x,layG s.h b [] (args++vals)=some x/\look=n::(x.L1++x.L):=by
  intro c h
  unfold callV at h
  simp only[] at h
  cases hc:c.callee with
  | value g=>
   rw[hc] at h
   simp only[] at h
   cases hg:s.ev E 0 g with
   | clo f' caps=>
    rw[hg] at h
    simp only[] at h
    cases hbl:Nat.blt (mfn f') 1000000 with
    | false=>rw[hbl] at h;cases h
    | true=>
    rw[hbl,cond_true] at h
    cases hpr:memN (mfn f') E.procs with
    | false=>rw[hpr] at h;cases h
    | true=>
     rw[hpr] at h
     simp only[Bool.cond_eq_ite,if_true] at h
     (repeat' split at h)<;>cases h
   | yld m=>
    rw[hg] at h
    simp only[] at h
    cases hm:s.h m with
    | lp lf lid live vs j=>
     rw[hm] at h
     cases j with
     | succ j=>cases h
     | zero=>
      simp only[] at h
      cases hx:layG s.h b [] (evArgs E s c.args.toList c.argTypes.toList++vs) with
      | none=>rw[hx] at h;cases h
      | some x=>rw[hx] at h;cases h;exact⟨g,rfl,hg,⟨live,hm⟩,rfl,x,hx,rfl⟩
    | _=>rw[hm] at h;cases h
   | _=>rw[hg] at h;cases h
  | invoke r m=>rw[hc] at h;simp at h
  | builtin q=>
   rw[hc] at h
   cases q with
   | copy=>exfalso;simp only[] at h;revert h;unfold copyV;simp only[Bool.cond_eq_ite];intro h;(repeat' split at h)<;>cases h
   | max=>exfalso;simp only[] at h;revert h;intro h;(repeat' split at h)<;>cases h
   | min=>exfalso;simp only[] at h;revert h;intro h;(repeat' split at h)<;>cases h
   | len=>simp only[] at h;split at h;exact absurd h (nolen _ _);cases h
   | append=>simp only[] at h;split at h;exact absurd h (noapp _ _ _ _);cases h
   | _=>simp at h
 cases ho:o.op with
 | call c=>
  simp only[plan,ho] at hp
  obtain⟨g,h⟩:=nocall c hp
  exact⟨c,g,rfl,h⟩
 | unOp op t x=>exfalso;revert hp;cases op<;>(simp only[plan,ho];intro hp;(repeat' split at hp)<;>cases hp)
 | makeFunc fn first caps=>exfalso;revert hp;cases fn<;>(simp only[plan,ho];(try simp only[Bool.cond_eq_ite]);intro hp;(repeat' split at hp)<;>cases hp)
 | binOp op t x y ty=>exfalso;revert hp;simp only[plan,ho,nilV,Bool.cond_eq_ite];intro hp;(repeat' split at hp)<;>first|exact eqP_yield hp|cases hp
 | typeAssert x xt t c=>exfalso;revert hp;cases c<;>simp only[plan,ho]<;>intro hp<;>(repeat' split at hp)<;>cases hp
 | slice t x lo hi mx=>exfalso;revert hp;simp only[plan,ho,sliceV,Bool.cond_eq_ite];intro hp;(repeat' split at hp)<;>cases hp
 | convert t d x=>exfalso;revert hp;simp only[plan,ho];unfold convV;simp only[Bool.cond_eq_ite];intro hp;(repeat' split at hp)<;>cases hp
 | _=>exfalso;revert hp;simp only[plan,ho];(try simp only[Bool.cond_eq_ite]);intro hp;(repeat' split at hp)<;>cases hp
theorem yield_exec{c:Call}{g:Operand}(hc:c.callee=.value g)(ho:o.op=.call c){l:Nat}(hv:a.eval g=.func (.yield l) #[] #[]){L:Loop}(hl:w.heap[l]?=some (.loop L))(hs:(c.args.map a.eval).size=L.params.size) :
  (execOp a.eval o).run E.P w=.ok (.round l L.fn ((L.params.zip (c.args.map a.eval)).foldl (fun tmps (t,x)=>tmps.setIfInBounds t x) L.tmps) L.assign L.body) w:=by
 simp only[execOp,ho,resolve,hc,hv,Deferred.ofValue,Sem.run_bind,Sem.run_pure,Result.andThen_ok,invoke,Array.empty_append]
 exact run_yield hl hs
theorem RVs.length{l:List (A U)}{vs:List Value}(h:RVs E w St ι l vs):l.length=vs.length:=by
 induction l generalizing vs with
 | nil=>cases vs with|nil=>rfl|cons _ _=>exact h.elim
 | cons a l ih=>cases vs with|nil=>exact h.elim|cons v vs=>simp[ih h.2]
theorem upds_at{α:Type}{h h':Nat->α}{m:Nat}:∀ {l:List (Nat×α)},h m=h' m->upds h l m=upds h' l m:=by
 intro l
 induction l generalizing h h' with
 | nil=>intro e;exact e
 | cons x l ih=>
  intro e
  refine ih ?_
  by_cases hx:m=x.1
  ·subst hx;simp only[upd_same]
  ·rw[upd_ne _ _ hx,upd_ne _ _ hx];exact e
theorem LoopIs.endL{f id:Nat}{live:List Nat}{L:Loop}(h:LoopIs E f id live L)(j:Nat):LoopIs E f id live (endL L j):=h
theorem yield_step(ok:EnvOk2 E){T:Tab U}(TS:TSound E T)(R:Rel E s N a.tmps w ι St)(hf:∀ m,b<=m->m<b+100->ι m=none)(hd:∀ d,o.dst=some d->d<N){n f lk:Nat}{vals args:List (A U)}{look:List Nat}(hp:plan E b o s=.yield n f lk vals args look)
  {sV:S U} (hg:∀ m∈look,sV.h m=s.h m) {K:S U->Prop} (hc:yieldK T b sV o.dst n f lk vals args K)
  {next:Act->World->Prop} {Q:Exit->Act->World->Prop} (h:∀ wr v u w' ι' St',K (sV.put wr o.dst v)->(∀ x∈wr,x.1∈look\/(b<=x.1/\x.1<b+100))->Stp E s N w ι St b o.dst wr v (a.put o.dst u).tmps w' ι' St'->next (a.put o.dst u) w') :
  o.wpIn (FR ro) 0 E.P a w next Q:=by
 obtain⟨c,g,ho,hcal,hev,⟨live,hn⟩,hA,x,hx,hlk⟩:=yield_plan hp
 have hlp:=R.obj n
 rw[hn] at hlp
 obtain⟨l,L,hι,hheap,hLI,hvals,hJ⟩:=hlp
 have hev':=ev_ok ok R 0 g
 rw[hev] at hev'
 have hgv:a.eval g=.func (.yield l) #[] #[]:=by
  have h1:RC E w St ι [.yld n] (a.eval g).cells.toList []:=hev'.1
  have h2:isAggV (a.eval g)=false:=hev'.2
  generalize hu:(a.eval g).cells.toList=us at h1
  cases h1 with
  | yld e1 e2=>
   cases e2
   rw[hι] at e1
   obtain rfl:l=_:=by injection e1 with e1;injection e1 with e1;injection e1
   cases hv:a.eval g with
   | agg cs=>rw[hv] at h2;simp[isAggV] at h2
   | _=>rw[hv] at hu;simp[Value.cells] at hu;try simp[hu]
 unfold yieldK at hc
 rw[layG_congr hx (fun m hm=>hg m (by rw[hlk];exact List.mem_cons_of_mem _ hm)),hg n (by rw[hlk];simp),hn] at hc
 simp only[] at hc
 cases hk0:(args.all known&&Nat.blt lk 1000000) with
 | false=>rw[hk0] at hc;exact hc.elim
 | true=>
 rw[hk0] at hc
 simp only[cond_true] at hc
 obtain⟨hk,hlk1⟩:=(Bool.and_eq_true _ _).mp hk0
 cases hb:((!memN n x.L1&&!memN n x.L)&&(Nat.ble x.n (b+100)&&x.L.all fun m=>Nat.blt m x.n||Nat.ble (b+100) m)) with
 | false=>rw[hb] at hc;exact hc.elim
 | true=>
 rw[hb] at hc
 simp only[cond_true] at hc
 simp only[Bool.and_eq_true,Nat.ble_eq,List.all_eq_true,Bool.or_eq_true,Nat.blt_eq,Bool.not_eq_true',memN_false] at hb
 obtain⟨⟨nL1,nL⟩,hxn,hL⟩:=hb
 obtain⟨hfit,hrs⟩:=(TS (ykey f lk) _ _ _ hc).2 f lk hlk1 rfl
 have R':=R.kill n
 have hB:blkO (ι n)=some l:=by rw[hι];rfl
 have hlive:isLive (s.h n)=true:=by rw[hn];rfl
 have hx':layG (upd s.h n .dead) b [] (args++vals)=some x:=layG_congr hx fun m hm=>upd_ne _ _ fun e=>by
  subst e
  rcases List.mem_append.1 hm with h|h
  ·exact nL1 h
  ·exact nL h
 have hav:RVs E w St ι args (c.args.map a.eval).toList:=by
  rw[hA] at hk ⊢
  simpa using args_known ok R c.args.toList c.argTypes.toList hk
 have hus:=RVs.append hav hvals
 obtain⟨ι2,LO⟩:=layG_ok ok R' hx' hus.holds' hus.noTup (fun m h5 h6=>hf m h5 (Nat.lt_of_lt_of_le h6 hxn))
 have hvs:=LO.vals.rvs (layG_noTup hx' hus.noTup)
 obtain⟨f1,f2,f3⟩:=hfit live L hLI
 have hsz:(c.args.map a.eval).size=L.params.size:=by
  have h1:=hvs.length
  rw[f1,List.length_append,List.length_map] at h1
  simp only[Array.length_toList] at h1
  omega
 have hexec:=yield_exec (E:=E) (o:=o) hcal ho hgv hheap hsz
 have hfold:(L.params.zip (c.args.map a.eval)).foldl (fun tmps (t,x)=>tmps.setIfInBounds t x) L.tmps=(L.params.toList.zip (c.args.map a.eval).toList).foldl (fun (t:Array Value) (x:Nat×Value)=>t.setIfInBounds x.1 x.2) L.tmps:=by
  rw[<-Array.toList_zip,Array.foldl_toList]
 obtain⟨g1,g2,g3⟩:=fold_get L.params.toList (c.args.map a.eval).toList L.tmps (List.nodup_append.1 f2).1 f3 (by simpa using hsz.symm)
 rw[hfold] at hexec
 generalize (L.params.toList.zip (c.args.map a.eval).toList).foldl (fun (t:Array Value) (x:Nat×Value)=>t.setIfInBounds x.1 x.2) L.tmps=tm at hexec g1 g2 g3
 have htm:(L.params.toList++live).map (fun d=>tm.getD d undef)=(c.args.map a.eval).toList++live.map fun d=>L.tmps.getD d undef:=by
  rw[List.map_append,g2]
  congr 1
  refine List.map_congr_left fun d hd=>g3 d fun hm=>?_
  exact (List.nodup_append.1 f2).2.2 d hm d hd rfl
 have noown:¬Own { s with h:=upd s.h n .dead } ι l:=by
  rintro⟨m,l1,b1⟩
  change isLive (upd s.h n .dead m)=true at l1
  by_cases e:m=n
  ·subst e;rw[upd_same] at l1;simp[isLive] at l1
  ·rw[upd_ne _ _ e] at l1
   exact e (R.dis m n l l1 hlive b1 hB)
 have hX:∀ B,B=l->¬Own { s with h:=upd s.h n .dead } ι B/\¬An St B:=fun B e=>by subst e;exact⟨noown,R.apt n B hlive hB⟩
 have hround:=hrs ro w St (reι x.L ι2) l live L tm hLI g1 (by rw[htm];exact hvs) LO.heap (fun m hm=>LO.out m (by rw[LO.len] at hm;exact hm)) hheap hJ.1 (fun h=>noown (LO.own l (LO.sub l h))) (R.apt n l hlive hB)
 refine⟨fun _ _=>trivial,?_⟩
 have hfn:L.fn=f:=hLI.1.2
 rw[Oper.semAt_eq _ _ _ (plan_defer (by rw[hp];simp)),hexec,Oper.uponIn_round,hfn]
 refine⟨fun h=>absurd h (by simp),RoundIn.mono hround fun e w' he=>?_⟩
 obtain⟨j,objs,ι',St',rfl,hh,q,n1,n2⟩:=he
 have hkk:=q.k
 simp only[] at hkk
 cases hb2:(Nat.ble x.L.length objs.length&&Nat.ble (x.n+(objs.length-x.L.length)) (b+100)) with
 | false=>rw[hb2] at hkk;exact hkk.elim
 | true=>
 rw[hb2] at hkk
 simp only[cond_true] at hkk
 simp only[Bool.and_eq_true,Nat.ble_eq] at hb2
 obtain⟨ι4,St2,k,kx⟩:=proc_doneX ok R' hf none (fun _ h=>by cases h) LO hxn hL hX q hb2.1 hb2.2
 obtain⟨k1,k2⟩:=kx l rfl n1 n2
 have hnm:∀ y∈x.wr++wrP x.L x.n 0 objs,(y.1∈x.L1\/y.1∈x.L)\/(b<=y.1/\y.1<b+100):=by
  intro y hy
  rcases List.mem_append.1 hy with hy|hy
  ·rcases layG_names hx y hy with h|h
   ·exact .inl (.inl h)
   ·exact .inr ⟨h.1,by omega⟩
  ·obtain⟨i,i1,i2,i3⟩:=wrP_names 0 objs y hy
   by_cases hi:i<x.L.length
   ·have:=List.mem_of_getElem? (unr_lt (n:=x.n) hi)
    rw[i3]
    exact .inl (.inr this)
   ·rw[i3,unr_ge (Nat.le_of_not_lt hi)]
    have:=LO.le
    exact .inr ⟨by omega,by omega⟩
 have nwr:n∉(x.wr++wrP x.L x.n 0 objs).map (·.1):=by
  intro hm
  obtain⟨y,hy,e⟩:=List.mem_map.1 hm
  rcases hnm y hy with (h|h)|h
  ·rw[e] at h;exact nL1 h
  ·rw[e] at h;exact nL h
  ·rw[e] at h;rw[hf n h.1 h.2] at hι;cases hι
 have k4:=k.rel
 have hι4:ι4 n=some (.func (.yield l) #[] #[]):=k.nm n _ hι
 have hdead:upds (upd s.h n .dead) (x.wr++wrP x.L x.n 0 objs) n=.dead:=by rw[upds_notin nwr,upd_same]
 have e4:upd ι4 n (some (.func (.yield l) #[] #[]))=ι4:=by rw[<-hι4,upd_self]
 have A4:=k4.adopt n (.lp f lk live vals j) (.func (.yield l) #[] #[]) (by show isLive (upds (upd s.h n .dead) _ n)=false;rw[hdead];rfl) (.inr hι4)
  ⟨l,endL L j,rfl,hh,hLI,by rw[e4];exact hvals.ext k.ext,rfl,rfl⟩ (fun B hl hB'=>by
   simp only[blk,base,Option.map_some,Option.some.injEq] at hB'
   subst hB'
   exact⟨k2,fun m hm hm2=>k1 ⟨m,hm,hm2⟩⟩)
 rw[e4] at A4
 have eh:upds s.h ((x.wr++wrP x.L x.n 0 objs)++[(n,.lp f lk live vals j)])=upd (upds (upd s.h n .dead) (x.wr++wrP x.L x.n 0 objs)) n (.lp f lk live vals j):=by
  rw[upds_append]
  funext m
  show upd _ n _ m=_
  by_cases e:m=n
  ·subst e;simp only[upd_same]
  ·rw[upd_ne _ _ e,upd_ne _ _ e]
   exact upds_at (upd_ne _ _ e).symm
 have hrel:Rel E { s with h:=upds s.h ((x.wr++wrP x.L x.n 0 objs)++[(n,.lp f lk live vals j)]) } N a.tmps w' ι4 St2:=by
  rw[eh];exact A4
 have sub:∀ B,Own { s with h:=upd s.h n .dead } ι B->Own s ι B:=by
  rintro B ⟨m,l1,b1⟩
  change isLive (upd s.h n .dead m)=true at l1
  by_cases e:m=n
  ·subst e;rw[upd_same] at l1;simp[isLive] at l1
  ·rw[upd_ne _ _ e] at l1;exact⟨m,l1,b1⟩
 have hown:Own s ι l:=⟨n,hlive,hB⟩
 have subX:∀ B,(Own { s with h:=upd s.h n .dead } ι B\/B=l)->Own s ι B:=fun B h=>h.elim (sub B) fun e=>e▸hown
 refine h _ _ (.bool (Nat.beq j 0)) w' ι4 St2 hkk (fun y hy=>?_) ⟨hrel.put' o.dst hd (.mk1 (.bool .nil) rfl rfl),k.fr.mono fun B _ h=>h.imp (subX B) id,k.nm,k.new,fun B hB'=>?_,fun gg B hgg=>(k.gr gg B hgg).imp id fun h=>h.imp (subX B) id,fun c x B h=>k.ext.st _ _ h⟩
 ·rcases List.mem_append.1 hy with hy|hy
  ·rcases hnm y hy with (h|h)|h
   ·exact .inl (by rw[hlk];exact List.mem_cons_of_mem _ (List.mem_append_left _ h))
   ·exact .inl (by rw[hlk];exact List.mem_cons_of_mem _ (List.mem_append_right _ h))
   ·exact .inr h
  ·simp only[List.mem_cons,List.not_mem_nil,or_false] at hy
   subst hy
   exact .inl (by rw[hlk];simp)
 ·obtain⟨m,l1,b1⟩:=hB'
  change isLive (upds s.h ((x.wr++wrP x.L x.n 0 objs)++[(n,.lp f lk live vals j)]) m)=true at l1
  rw[eh] at l1
  by_cases e:m=n
  ·subst e
   rw[hι4] at b1
   obtain rfl:l=B:=by simpa[blkO,blk,base] using b1
   exact .inl hown
  ·rw[upd_ne _ _ e] at l1
   exact (k.own B ⟨m,l1,b1⟩).imp (subX B) id
end
end Go.V
