/- V: VState, VOps, VOps2, VOps3, VOps4 -/
import Derived.Test.YtnmecdecebdfiaaDoorVJ01
import Derived.Laws.Strings
set_option linter.unusedVariables false
namespace Go.V
variable {U:Nat->Type}
def RV(E:Env U)(w:World)(St:Ck U->Nat->Prop)(ι:Nat->Option Value)(a:A U)(v:Value):Prop:=
 RC E w St ι [a] v.cells.toList []/\isAggV v=isAgg a
def RVs(E:Env U)(w:World)(St:Ck U->Nat->Prop)(ι:Nat->Option Value):List (A U)->List Value->Prop
 | [],[]=>True
 | a::l,v::vs=>(a=.none\/RV E w St ι a v)/\RVs E w St ι l vs
 | _,_=>False
def RT(E:Env U)(w:World)(St:Ck U->Nat->Prop)(ι:Nat->Option Value)(a:A U)(v:Value):Prop:=
 match a with
 | .none=>True
 | .tup l=>∃ vs,v=.tuple vs/\RVs E w St ι l vs.toList
 | a=>RV E w St ι a v
def isLive:AObj U->Bool
 | .box _|.lst .. | .lp .. => true
 | _=>false
def LoopIs(E:Env U)(f:FuncId)(id:Nat)(live:List Nat)(L:Loop):Prop:=
 (loopOf f id E.loops=some live/\L.fn=f)/\(∃ g k,ctxAll (1000000+id) (bodyOf E.P f)=.code (.rangeFunc g L.params L.assign L.body)::k)/\∃ fn,E.P.funcs[f]?=some fn/\fn.ntmps<=L.tmps.size
def jumpOf:Nat->Option Code
 | 0=>.none
 | 1=>some .ret
 | j+2=>some (.exit j)
def JumpIs(j:Nat)(L:Loop):Prop:=L.state=(if j=0 then .ready else .done)/\L.pending=jumpOf j
def RO(E:Env U)(w:World)(St:Ck U->Nat->Prop)(ι:Nat->Option Value)(o:AObj U)(x:Option Value):Prop:=
 match o with
 | .dead=>True
 | .box a=>∃ B cs,x=some (.pointer (some ⟨B,0,.none⟩))/\RC E w St ι [a] cs []/\w.rangeAt B 0 cs/\w.there B 0 cs.length/\B<w.heap.size
 | .lst c xs=>((∃ a,x=some (.slice a 0 0))/\xs=[])\/∃ B off C ds,x=some (.slice (some ⟨B,off,.none⟩) xs.length (C+1))/\RC E w St ι (xs.map (E.enc c)) ds [] ∧
   w.rangeAt B off ds/\thereA (E.ty c≠.int .u8) w B off ((C+1)*E.sz c)/\xs.length<=C+1/\B<w.heap.size
 | .fz c xs=>∃ v,x=some v/\RC E w St ι [.ro false c xs] [v] []
 | .lp f id live vals j=>∃ r L,x=some (.func (.yield r) #[] #[])/\w.heap[r]?=some (.loop L)/\LoopIs E f id live L/\RVs E w St ι vals (live.map fun d=>L.tmps.getD d undef)/\JumpIs j L
def blkO(x:Option Value):Option Nat:=x.bind blk
abbrev noNm:Nat->Option Value:=fun _=>none
def MemoOk(E:Env U)(w:World)(St:Ck U->Nat->Prop)(g:Int)(x:KT (U E.kn.c))(ms:List Value):Prop:=
 ∃ os ds,ms=os++ds/\((os=[.int .u32 0,.int .i32 0,.int .u32 0]/\∃ dl:List (U E.kn.dc),RC E w St noNm [.arr E.kn.dc E.kn.dn dl] ds [])\/(os=[.int .u32 1,.int .i32 0,.int .u32 0]/\RC E w St noNm [E.kn.dg g x] ds []))
structure KnotIs (E:Env U) (w:World) (St:Ck U->Nat->Prop) (g:Int) (v:U E.kn.c) (l r:KT (U E.kn.c)) (B:Nat) (ms ls:List Value) (pl pr:Value):Prop where
 at_:w.rangeAt B 0 (ms++(ls++[pl,pr]))
 there:w.there B 0 (ms++(ls++[pl,pr])).length
 leaf:RC E w St noNm [E.enc _ v] ls []
 lt:KP St _ l [] pl
 rt:KP St _ r [] pr
 memo:MemoOk E w St g (.node g v l r) ms
 len:ms.length=size E.sz E.kn.mz
def KnotOk(E:Env U)(w:World)(St:Ck U->Nat->Prop)(x:KT (U E.kn.c))(B:Nat):Prop:=match x with
 | .nil=>False
 | .node g v l r=>∃ ms ls pl pr,KnotIs E w St g v l r B ms ls pl pr
def KnotAt(E:Env U)(w:World)(St:Ck U->Nat->Prop)(c:Nat)(x:KT (U c))(B:Nat):Prop:=∃ h:c=E.kn.c,KnotOk E w St (h▸x) B
def GloAt(E:Env U)(w:World)(St:Ck U->Nat->Prop)(g:Nat):Prop:=
 RT E w St noNm (E.glob g) (.pointer (some ⟨g,0,.none⟩))/\∀ n,E.whole g=some n->St (.on false) g/\∃ cs t m,w.heap[g]?=some (.cells cs t m)/\cs.size=n
theorem GloAt.of_rt{E:Env U}{w:World}{St:Ck U->Nat->Prop}{g:Nat}(h:RT E w St noNm (E.glob g) (.pointer (some ⟨g,0,.none⟩)))(hw:E.whole g=.none):GloAt E w St g:=
 ⟨h,fun n e=>by rw[hw] at e;cases e⟩
structure Sup (E:Env U) (w:World) (St:Ck U->Nat->Prop):Prop where
 up:∀ B,St (.on false) B->St (.on true) B
 cls:∀ c x B,St (.kn c x) B->¬AnR St B
 glo:∀ g,GloAt E w St g
 kn:∀ c x B,St (.kn c x) B->KnotAt E w St c x B
 one:∀ c x c' x' B,St (.kn c x) B->St (.kn c' x') B->Ck.kn c x=Ck.kn c' x'
structure Rel (E:Env U) (s:S U) (N:Nat) (tm:Array Value) (w:World) (ι:Nat->Option Value) (St:Ck U->Nat->Prop):Prop where
 tsz:tm.size=N
 tmp:∀ d,RT E w St ι (s.t d) (tm.getD d undef)
 obj:∀ n,RO E w St ι (s.h n) (ι n)
 dis:∀ n m B,isLive (s.h n)=true->isLive (s.h m)=true->blkO (ι n)=some B->blkO (ι m)=some B->n=m
 stb:∀ B,An St B->B<w.heap.size
 apt:∀ n B,isLive (s.h n)=true->blkO (ι n)=some B->¬An St B
 sup:Sup E w St
def NoDr:Prop:=True
structure Fr (O:Nat->Prop) (w w':World):Prop where
 size:w.heap.size<=w'.heap.size
 same:∀ b,b<w.heap.size->¬O b->w'.heap[b]?=w.heap[b]?
 out:w'.output=w.output
 os:w'.os=w.os
 tape:w'.tape=w.tape
 drn:NoDr\/w.drawn<=w'.drawn
theorem Fr.refl(O:Nat->Prop)(w:World):Fr O w w:=⟨Nat.le_refl _,fun _ _ _=>rfl,rfl,rfl,rfl,.inr (Nat.le_refl _)⟩
theorem Fr.trans{O:Nat->Prop}{w w1 w2:World}(h:Fr O w w1)(h':Fr O w1 w2):Fr O w w2:=
 ⟨Nat.le_trans h.size h'.size,fun b hb ho=>(h'.same b (Nat.lt_of_lt_of_le hb h.size) ho).trans (h.same b hb ho),h'.out.trans h.out,h'.os.trans h.os,h'.tape.trans h.tape,h.drn.elim .inl fun a=>h'.drn.imp id (Nat.le_trans a)⟩
theorem Fr.mono{O O':Nat->Prop}{w w':World}(h:Fr O w w')(ho:∀ b,b<w.heap.size->O b->O' b):Fr O' w w':=
 ⟨h.size,fun b hb hn=>h.same b hb fun x=>hn (ho b hb x),h.out,h.os,h.tape,h.drn⟩
theorem Fr.drew(O:Nat->Prop)(w:World):Fr O w w.drew:=⟨Nat.le_refl _,fun _ _ _=>rfl,rfl,rfl,rfl,.inr (Nat.le_succ _)⟩
theorem Fr.alloc(O:Nat->Prop)(w:World)(o:Obj):Fr O w (w.alloc o):=
 ⟨by simp,fun b hb _=>by simp only[World.alloc,Array.getElem?_push];rw[if_neg (by omega)],rfl,rfl,rfl,.inr (Nat.le_refl _)⟩
theorem heap_setCell(w:World)(a:Addr)(v:Value)(b:Nat)(h:b≠a.block):(w.setCell a v).heap[b]?=w.heap[b]?:=by
 simp only[World.setCell,Array.getElem?_modify]
 rw[if_neg (fun e=>h e.symm)]
theorem heap_setCells(B:Nat):∀ (vs:List Value) (o:Nat) (w:World) (b:Nat),b≠B->(w.setCells B o vs).heap[b]?=w.heap[b]?
 | [],_,_,_,_=>rfl
 | v::r,o,w,b,h=>by rw[World.setCells,heap_setCells B r _ _ b h,heap_setCell _ _ _ _ h]
theorem size_setCells(B:Nat):∀ (vs:List Value) (o:Nat) (w:World),(w.setCells B o vs).heap.size=w.heap.size
 | [],_,_=>rfl
 | v::r,o,w=>by rw[World.setCells,size_setCells B r];simp
theorem out_setCells(B:Nat):∀ (vs:List Value) (o:Nat) (w:World),(w.setCells B o vs).output=w.output/\(w.setCells B o vs).os=w.os/\(w.setCells B o vs).tape=w.tape/\(w.setCells B o vs).drawn=w.drawn
 | [],_,_=>⟨rfl,rfl,rfl,rfl⟩
 | v::r,o,w=>by rw[World.setCells];exact out_setCells B r _ _
theorem Fr.setCells{O:Nat->Prop}(w:World)(B o:Nat)(vs:List Value)(h:O B):Fr O w (w.setCells B o vs):=
 ⟨by rw[size_setCells];omega,fun b _ hn=>heap_setCells B vs o w b fun e=>hn (e▸h),(out_setCells B vs o w).1,(out_setCells B vs o w).2.1,(out_setCells B vs o w).2.2.1,.inr (Nat.le_of_eq (out_setCells B vs o w).2.2.2.symm)⟩
section
variable {E:Env U} {w w':World} {St St':Ck U->Nat->Prop} {ι ι':Nat->Option Value}
structure Ext (w:World) (St:Ck U->Nat->Prop) (ι:Nat->Option Value) (w':World) (St':Ck U->Nat->Prop) (ι':Nat->Option Value):Prop where
 st:∀ g b,St g b->St' g b
 nm:∀ n v,ι n=some v->ι' n=some v
 hp:∀ b,AnR St b->w'.heap[b]?=w.heap[b]?
 sz:w.heap.size<=w'.heap.size
theorem Ext.refl:Ext w St ι w St ι:=⟨fun _ _ h=>h,fun _ _ h=>h,fun _ _=>rfl,Nat.le_refl _⟩
theorem RC.ext{l:List (A U)}{cs:List Value}(h:RC E w St ι l cs [])(x:Ext w St ι w' St' ι'):RC E w' St' ι' l cs []:=
 h.mono x.st x.nm (fun b hb=>x.hp b (hb.resolve_right (by simp))) x.sz
theorem RV.ext{a:A U}{v:Value}(h:RV E w St ι a v)(x:Ext w St ι w' St' ι'):RV E w' St' ι' a v:=⟨h.1.ext x,h.2⟩
theorem RVs.ext(x:Ext w St ι w' St' ι'):∀ {l:List (A U)} {vs:List Value},RVs E w St ι l vs->RVs E w' St' ι' l vs
 | [],[],h=>trivial
 | a::l,v::vs,h=>⟨h.1.imp id fun h=>h.ext x,RVs.ext x h.2⟩
 | [],_::_,h=>h.elim
 | _::_,[],h=>h.elim
theorem RT.ext{a:A U}{v:Value}(h:RT E w St ι a v)(x:Ext w St ι w' St' ι'):RT E w' St' ι' a v:=by
 cases a with
 | none=>trivial
 | tup l=>obtain⟨vs,hv,hr⟩:=h;exact⟨vs,hv,hr.ext x⟩
 | _=>exact RV.ext h x
theorem GloAt.ext{g:Nat}(h:GloAt E w St g)(x:Ext w St noNm w' St' noNm):GloAt E w' St' g:=
 ⟨h.1.ext x,fun n e=>let ⟨h1,cs,t,m,h2,h3⟩:=h.2 n e;⟨x.st _ _ h1,cs,t,m,(x.hp g ⟨false,h1⟩).trans h2,h3⟩⟩
theorem rangeAt_of_heap{b off:Nat}{ds:List Value}(hb:w'.heap[b]?=w.heap[b]?)(h:w.rangeAt b off ds):w'.rangeAt b off ds:=by
 intro j v hj
 have:=h j v hj
 simp only[World.cell?] at this ⊢
 rw[hb];exact this
theorem there_of_heap{b off n:Nat}(hb:w'.heap[b]?=w.heap[b]?)(h:w.there b off n):w'.there b off n:=by
 intro j hj
 have:=h j hj
 simp only[World.cell?,World.frozen?] at this ⊢
 rw[hb];exact this
theorem thereA_of_heap{q:Prop}{b off n:Nat}(hb:w'.heap[b]?=w.heap[b]?)(h:thereA q w b off n):thereA q w' b off n:=by
 refine⟨there_of_heap hb h.1,fun hq j=>?_⟩
 have:=h.2 hq j
 simp only[World.frozen?] at this ⊢
 rw[hb];exact this
theorem MemoOk.ext{g:Int}{y:KT (U E.kn.c)}{ms:List Value}(h:MemoOk E w St g y ms)(x:Ext w St noNm w' St' noNm):MemoOk E w' St' g y ms:=by
 obtain⟨os,ds,h1,h2⟩:=h
 exact⟨os,ds,h1,h2.imp (fun ⟨h,dl,h2⟩=>⟨h,dl,h2.ext x⟩) fun h=>⟨h.1,h.2.ext x⟩⟩
theorem KnotIs.ext{g:Int}{v:U E.kn.c}{l r:KT (U E.kn.c)}{B:Nat}{ms ls:List Value}{pl pr:Value}(h:KnotIs E w St g v l r B ms ls pl pr)(x:Ext w St noNm w' St' noNm)(hB:w'.heap[B]?=w.heap[B]?):KnotIs E w' St' g v l r B ms ls pl pr:=
 ⟨rangeAt_of_heap hB h.at_,there_of_heap hB h.there,h.leaf.ext x,h.lt.mono x.st,h.rt.mono x.st,h.memo.ext x,h.len⟩
theorem KnotOk.ext{y:KT (U E.kn.c)}{B:Nat}(h:KnotOk E w St y B)(x:Ext w St noNm w' St' noNm)(hB:w'.heap[B]?=w.heap[B]?):KnotOk E w' St' y B:=by
 cases y with
 | nil=>exact h
 | node g v l r=>
  obtain⟨ms,ls,pl,pr,h⟩:=h
  exact⟨ms,ls,pl,pr,h.ext x hB⟩
theorem KnotAt.ext{c:Nat}{y:KT (U c)}{B:Nat}(h:KnotAt E w St c y B)(x:Ext w St noNm w' St' noNm)(hB:w'.heap[B]?=w.heap[B]?):KnotAt E w' St' c y B:=by
 obtain⟨e,h⟩:=h
 exact⟨e,h.ext x hB⟩
theorem Ext.noN(x:Ext w St ι w' St' ι'):Ext w St noNm w' St' noNm:=⟨x.st,fun _ _ h=>by simp at h,x.hp,x.sz⟩
theorem Sup.ext(h:Sup E w St)(x:Ext w St ι w' St' ι')(hu:∀ B,St' (.on false) B->St' (.on true) B)(hc:∀ c y B,St' (.kn c y) B->¬AnR St' B)(hk:∀ c y B,St' (.kn c y) B->St (.kn c y) B)(hb:∀ B,KnB St B->w'.heap[B]?=w.heap[B]?):Sup E w' St':=
 ⟨hu,hc,fun g=>(h.glo g).ext x.noN,fun c y B hB=>(h.kn c y B (hk c y B hB)).ext x.noN (hb B ⟨c,y,hk c y B hB⟩),fun c y c' y' B h1 h2=>h.one c y c' y' B (hk _ _ _ h1) (hk _ _ _ h2)⟩
theorem base_zero(a:Option Addr)(n:Nat):base (.slice a n 0)=.none:=by
 cases a with
 | none=>rfl
 | some x=>obtain⟨b,o,m⟩:=x;cases m<;>rfl
theorem base_pos{b o n c:Nat}(h:0<c):base (.slice (some ⟨b,o,.none⟩) n c)=some (b,o):=by
 obtain⟨c,rfl⟩:=Nat.exists_eq_succ_of_ne_zero (Nat.ne_of_gt h);rfl
theorem base_inv{b o n c:Nat}{x:Nat×Nat}(h:base (.slice (some ⟨b,o,.none⟩) n c)=some x):x=(b,o)/\0<c:=by
 cases c with
 | zero=>rw[base_zero] at h;cases h
 | succ c=>exact⟨(Option.some.inj h).symm,Nat.succ_pos _⟩
theorem RO.lst_of{c:Nat}{xs:List (U c)}{x:Option Value}{B off cap:Nat}{ds:List Value}(h0:0<cap)(hx:x=some (.slice (some ⟨B,off,.none⟩) xs.length cap))(h1:RC E w St ι (xs.map (E.enc c)) ds [])(h2:w.rangeAt B off ds)
  (h3:thereA (E.ty c≠.int .u8) w B off (cap*E.sz c)) (h4:xs.length<=cap) (h5:B<w.heap.size):RO E w St ι (.lst c xs) x:=by
 obtain⟨C,rfl⟩:=Nat.exists_eq_succ_of_ne_zero (Nat.ne_of_gt h0)
 exact .inr ⟨B,off,C,ds,hx,h1,h2,h3,h4,h5⟩
theorem blk_pos{b o n c:Nat}(h:0<c):blk (.slice (some ⟨b,o,.none⟩) n c)=some b:=by unfold blk;rw[base_pos h];rfl
theorem blk_inv{b o n c B:Nat}(h:blk (.slice (some ⟨b,o,.none⟩) n c)=some B):B=b/\0<c:=by
 unfold blk at h
 cases hb:base (.slice (some ⟨b,o,.none⟩) n c) with
 | none=>rw[hb] at h;cases h
 | some x=>rw[hb] at h;obtain⟨rfl,h2⟩:=base_inv hb;exact⟨(Option.some.inj h).symm,h2⟩
theorem RO.ext{o:AObj U}{x y:Option Value}(h:RO E w St ι o x)(e:Ext w St ι w' St' ι')(hxy:∀ v,x=some v->y=some v)(hb:∀ b,isLive o=true->blkO x=some b->w'.heap[b]?=w.heap[b]?):RO E w' St' ι' o y:=by
 cases o with
 | dead=>trivial
 | box a=>
  obtain⟨B,cs,rfl,h1,h2,h3,h4⟩:=h
  have hh:=hb B rfl rfl
  exact⟨B,cs,hxy _ rfl,h1.ext e,rangeAt_of_heap hh h2,there_of_heap hh h3,Nat.lt_of_lt_of_le h4 e.sz⟩
 | lst c xs=>
  rcases h with ⟨⟨a,h1⟩,h2⟩|⟨B,off,cap,ds,rfl,h1,h2,h3,h4,h5⟩
  ·exact .inl ⟨⟨a,hxy _ h1⟩,h2⟩
  ·have hh:=hb B rfl rfl
   exact .inr ⟨B,off,cap,ds,hxy _ rfl,h1.ext e,rangeAt_of_heap hh h2,thereA_of_heap hh h3,h4,Nat.lt_of_lt_of_le h5 e.sz⟩
 | fz c xs=>
  obtain⟨v,rfl,h⟩:=h
  exact⟨v,hxy _ rfl,h.ext e⟩
 | lp f id live vals j=>
  obtain⟨r,L,rfl,h1,h2,h3,h4⟩:=h
  exact⟨r,L,hxy _ rfl,(hb r rfl rfl).trans h1,h2,h3.ext e,h4⟩
theorem getD_put(tm:Array Value)(d e:Nat)(u:Value):(tm.setIfInBounds d u).getD e undef=if d=e/\d<tm.size then u else tm.getD e undef:=by
 simp only[Array.getD_eq_getD_getElem?]
 by_cases h:d=e
 ·subst h
  by_cases h2:d<tm.size
  ·simp[h2]
  ·simp[h2]
 ·simp[h,Array.getElem?_setIfInBounds_ne h]
theorem upd_eq{α:Type}(f:Nat->α)(n m:Nat)(x:α):upd f n x m=if m=n then x else f m:=by
 unfold upd
 by_cases h:m=n
 ·subst h;simp
 ·rw[if_neg h]
  have:Nat.beq m n=false:=by
   cases hb:Nat.beq m n
   ·rfl
   ·exact absurd (Nat.eq_of_beq_eq_true hb) h
  rw[this];rfl
@[simp] theorem upd_same {α:Type} (f:Nat->α) (n:Nat) (x:α):upd f n x n=x:=by rw[upd_eq,if_pos rfl]
theorem upd_ne{α:Type}(f:Nat->α){n m:Nat}(x:α)(h:m≠n):upd f n x m=f m:=by rw[upd_eq,if_neg h]
theorem upd_upd{α:Type}(f:Nat->α)(n:Nat)(x y:α):upd (upd f n x) n y=upd f n y:=by
 funext m;by_cases h:m=n<;>simp[upd_eq,h]
theorem upd_comm{α:Type}(f:Nat->α){n m:Nat}(x y:α)(h:n≠m):upd (upd f n x) m y=upd (upd f m y) n x:=by
 funext k
 simp only[upd_eq]
 by_cases h1:k=m
 ·subst h1;simp[Ne.symm h]
 ·simp[h1]
theorem upd_self{α:Type}(f:Nat->α)(n:Nat):upd f n (f n)=f:=by
 funext m;by_cases h:m=n<;>simp[upd_eq,h]
variable {s:S U} {N:Nat} {tm:Array Value}
theorem Rel.tmp'(R:Rel E s N tm w ι St)(d:Nat)(hd:d<N){v:A U}{u:Value}(hv:RT E w St ι v u):Rel E { s with t:=upd s.t d v } N (tm.setIfInBounds d u) w ι St:=by
 refine⟨by simp[R.tsz],fun e=>?_,R.obj,R.dis,R.stb,R.apt,R.sup⟩
 rw[getD_put,R.tsz]
 by_cases h:d=e
 ·subst h;simp[hd,hv]
 ·simp only[h,false_and,if_false]
  show RT E w St ι (upd s.t d v e) _
  rw[upd_ne _ _ (Ne.symm h)]
  exact R.tmp e
theorem Rel.kill(R:Rel E s N tm w ι St)(n:Nat):Rel E { s with h:=upd s.h n .dead } N tm w ι St:=by
 have hl:∀ m,isLive (upd s.h n .dead m)=true->m≠n/\isLive (s.h m)=true:=by
  intro m hm
  by_cases h:m=n
  ·subst h;rw[upd_same] at hm;exact absurd hm (by simp[isLive])
  ·rw[upd_ne _ _ h] at hm;exact⟨h,hm⟩
 refine⟨R.tsz,R.tmp,fun m=>?_,fun a b B ha hb=>R.dis a b B (hl a ha).2 (hl b hb).2,R.stb,fun m B hm=>R.apt m B (hl m hm).2,R.sup⟩
 by_cases h:m=n
 ·subst h;show RO E w St ι (upd s.h m .dead m) _;rw[upd_same];trivial
 ·show RO E w St ι (upd s.h n .dead m) _;rw[upd_ne _ _ h];exact R.obj m
theorem Rel.world(R:Rel E s N tm w ι St)(hsz:w.heap.size<=w'.heap.size)(hs:∀ B,An St B->w'.heap[B]?=w.heap[B]?)
  (hl:∀ n B,isLive (s.h n)=true->blkO (ι n)=some B->w'.heap[B]?=w.heap[B]?):Rel E s N tm w' ι St:=by
 have e:Ext w St ι w' St ι:=⟨fun _ _ h=>h,fun _ _ h=>h,fun b hb=>hs b hb.an,hsz⟩
 exact⟨R.tsz,fun d=>(R.tmp d).ext e,fun n=>(R.obj n).ext e (fun _ h=>h) (fun b h1 h2=>hl n b h1 h2),R.dis,fun B hB=>Nat.lt_of_lt_of_le (R.stb B hB) hsz,R.apt,R.sup.ext e R.sup.up R.sup.cls (fun _ _ _ h=>h) (fun B h=>hs B h.an)⟩
theorem Rel.worldK(R:Rel E s N tm w ι St)(hsz:w.heap.size<=w'.heap.size)(hs:∀ B,AnR St B->w'.heap[B]?=w.heap[B]?)(hl:∀ n B,isLive (s.h n)=true->blkO (ι n)=some B->w'.heap[B]?=w.heap[B]?)
  {St2:Ck U->Nat->Prop} (h2:∀ g B,St g B->St2 g B) (hn:∀ g B,St2 g B->St g B\/(w.heap.size<=B/\B<w'.heap.size)) (hlt:∀ n B,isLive (s.h n)=true->blkO (ι n)=some B->B<w.heap.size) (hsup:Sup E w' St2):Rel E s N tm w' ι St2:=by
 have e:Ext w St ι w' St2 ι:=⟨h2,fun _ _ h=>h,hs,hsz⟩
 refine⟨R.tsz,fun d=>(R.tmp d).ext e,fun n=>(R.obj n).ext e (fun _ h=>h) (fun b h1 h2=>hl n b h1 h2),R.dis,fun B ⟨g,hB⟩=>?_,fun n B h1 h2 ⟨g,hB⟩=>?_,hsup⟩
 ·rcases hn g B hB with h|h
  ·exact Nat.lt_of_lt_of_le (R.stb B ⟨g,h⟩) hsz
  ·exact h.2
 ·rcases hn g B hB with h|h
  ·exact R.apt n B h1 h2 ⟨g,h⟩
  ·exact absurd (hlt n B h1 h2) (by omega)
theorem Rel.adopt(R:Rel E s N tm w ι St)(n:Nat)(o:AObj U)(v:Value)(hn:isLive (s.h n)=false)(hι:ι n=none\/ι n=some v)
  (ho:RO E w St (upd ι n (some v)) o (some v)) (hB:∀ B,isLive o=true->blk v=some B->¬An St B/\∀ m,isLive (s.h m)=true->blkO (ι m)≠some B) :
  Rel E { s with h:=upd s.h n o } N tm w (upd ι n (some v)) St:=by
 have hx:∀ m u,ι m=some u->upd ι n (some v) m=some u:=by
  intro m u hm
  by_cases h:m=n
  ·subst h;rw[upd_same];rcases hι with h0|h0<;>rw[h0] at hm<;>simp_all
  ·rw[upd_ne _ _ h];exact hm
 have e:Ext w St ι w St (upd ι n (some v)):=⟨fun _ _ h=>h,hx,fun _ _=>rfl,Nat.le_refl _⟩
 have hl:∀ m,m≠n->isLive (upd s.h n o m)=true->isLive (s.h m)=true/\upd ι n (some v) m=ι m:=fun m h hm=>by
  rw[upd_ne _ _ h] at hm;exact⟨hm,upd_ne _ _ h⟩
 refine⟨R.tsz,fun d=>(R.tmp d).ext e,fun m=>?_,fun a b B ha hb h1 h2=>?_,R.stb,fun m B hm h1=>?_,R.sup⟩
 ·by_cases h:m=n
  ·subst h;show RO E w St _ (upd s.h m o m) _;rw[upd_same,upd_same];exact ho
  ·show RO E w St _ (upd s.h n o m) _;rw[upd_ne _ _ h]
   exact (R.obj m).ext e (hx m) (fun _ _ _=>rfl)
 ·by_cases ha':a=n
  ·by_cases hb':b=n
   ·rw[ha',hb']
   ·subst ha'
    obtain⟨q1,q2⟩:=hl b hb' hb
    rw[upd_same] at h1
    have ha2:isLive o=true:=by change isLive (upd s.h a o a)=true at ha;rw[upd_same] at ha;exact ha
    rw[q2] at h2
    exact absurd h2 ((hB B ha2 h1).2 b q1)
  ·by_cases hb':b=n
   ·subst hb'
    obtain⟨q1,q2⟩:=hl a ha' ha
    have hb2:isLive o=true:=by change isLive (upd s.h b o b)=true at hb;rw[upd_same] at hb;exact hb
    rw[upd_same] at h2
    rw[q2] at h1
    exact absurd h1 ((hB B hb2 h2).2 a q1)
   ·obtain⟨q1,q2⟩:=hl a ha' ha
    obtain⟨q3,q4⟩:=hl b hb' hb
    rw[q2] at h1;rw[q4] at h2
    exact R.dis a b B q1 q3 h1 h2
 ·by_cases h:m=n
  ·subst h
   have hm2:isLive o=true:=by change isLive (upd s.h m o m)=true at hm;rw[upd_same] at hm;exact hm
   rw[upd_same] at h1
   exact (hB B hm2 h1).1
  ·obtain⟨q1,q2⟩:=hl m h hm
   rw[q2] at h1
   exact R.apt m B q1 h1
theorem KnotAt.closed(ok:EnvOk E)(hS:∀ B,St (.on false) B->St' (.on false) B)(hk:∀ c x B,St (.kn c x) B->St' (.kn c x) B){c:Nat}{y:KT (U c)}{B:Nat}(h:KnotAt E w St c y B):KnotAt E w St' c y B:=by
 have kp:∀ {c:Nat} {x:KT (U c)} {p:List Step} {v:Value},KP St c x p v->KP St' c x p v:=fun h=>h.imp id fun ⟨h1,h2,B,h3,h4⟩=>⟨h1,h2,B,h3,hk _ _ _ h4⟩
 obtain⟨rfl,h⟩:=h
 refine⟨rfl,?_⟩
 cases y with
 | nil=>exact h
 | node g v l r=>
  obtain⟨ms,ls,pl,pr,h⟩:=h
  refine⟨ms,ls,pl,pr,h.at_,h.there,h.leaf.closed ok hS (by simp[closeds,ok.clo]),kp h.lt,kp h.rt,?_,h.len⟩
  obtain⟨os,ds,h1,h2⟩:=h.memo
  exact⟨os,ds,h1,h2.imp (fun ⟨h,dl,h2⟩=>⟨h,dl,h2.closed ok hS (by simp[closeds,V.closed])⟩) fun h=>⟨h.1,h.2.closed ok hS (by simp[closeds,ok.kdg])⟩⟩
def joinS(St St':Ck U->Nat->Prop)(n:Nat)(g:Ck U)(B:Nat):Prop:=St g B\/(match g with|.on _=>n<=B/\AnR St' B|.kn c x=>St' (.kn c x) B)
theorem Sup.joinS(ok:EnvOk E)(h:Sup E w St)(hlt:∀ B,An St B->B<w.heap.size)(hp:∀ B,AnR St B->w'.heap[B]?=w.heap[B]?)(hsz:w.heap.size<=w'.heap.size)(h':Sup E w' St')(mono:∀ c x B,St (.kn c x) B->St' (.kn c x) B)
  (g0:∀ B,St' (.on false) B->St (.on false) B\/w.heap.size<=B) (gk:∀ c x B,St' (.kn c x) B->St (.kn c x) B\/w.heap.size<=B):Sup E w' (V.joinS St St' w.heap.size):=by
 have hk:∀ {c:Nat} {x:KT (U c)} {B:Nat},V.joinS St St' w.heap.size (.kn c x) B->St' (.kn c x) B:=fun h=>h.elim (mono _ _ _) id
 refine⟨fun B h1=>h1.imp (h.up B) id,fun c x B h1 h2=>?_,fun g=>(h.glo g).ext ⟨fun _ _ h=>.inl h,fun _ _ h=>h,hp,hsz⟩,fun c x B h1=>?_,fun c x c' x' B h1 h2=>h'.one _ _ _ _ _ (hk h1) (hk h2)⟩
 ·obtain⟨g,h2|h2⟩:=h2
  ·rcases gk c x B (hk h1) with h3|h3
   ·exact h.cls c x B h3 ⟨g,h2⟩
   ·have:=hlt B ⟨_,h2⟩;omega
  ·exact h'.cls c x B (hk h1) h2.2
 ·exact (h'.kn c x B (hk h1)).closed ok (fun B h2=>(g0 B h2).imp id fun h3=>⟨h3,⟨_,h2⟩⟩) (fun c x B h2=>.inr h2)
def isOn:Ck U->Bool
 | .on _=>true
 | .kn .. => false
def more(St:Ck U->Nat->Prop)(Q:Nat->Prop)(g:Ck U)(B:Nat):Prop:=St g B\/(isOn g=true/\Q B)
theorem more.kn{Q:Nat->Prop}{c:Nat}{x:KT (U c)}{B:Nat}(h:more St Q (.kn c x) B):St (.kn c x) B:=by
 rcases h with h|⟨h,-⟩
 ·exact h
 ·cases h
theorem more.cls{Q:Nat->Prop}(h:∀ c x B,St (.kn c x) B->¬AnR St B)(hq:∀ B,Q B->¬KnB St B):∀ c x B,more St Q (.kn c x) B->¬AnR (more St Q) B:=by
 rintro c x B (h1|⟨h1,-⟩) ⟨g,h2|⟨-,h2⟩⟩
 ·exact h c x B h1 ⟨g,h2⟩
 ·exact hq B h2 ⟨c,x,h1⟩
 ·cases h1
 ·cases h1
theorem Ext.mores(Q:Nat->Prop):Ext w St ι w (more St Q) ι:=⟨fun _ _ h=>.inl h,fun _ _ h=>h,fun _ _=>rfl,Nat.le_refl _⟩
theorem Rel.stables(R:Rel E s N tm w ι St)(Q:Nat->Prop)(hsz:∀ B,Q B->B<w.heap.size)(hf:∀ m B,isLive (s.h m)=true->blkO (ι m)=some B->¬Q B)(hq:∀ B,Q B->¬KnB St B):Rel E s N tm w ι (more St Q):=by
 have e:Ext w St ι w (more St Q) ι:=Ext.mores Q
 refine⟨R.tsz,fun d=>(R.tmp d).ext e,fun n=>(R.obj n).ext e (fun _ h=>h) (fun _ _ _=>rfl),R.dis,fun B hB=>?_,fun n B h1 h2 hB=>?_,R.sup.ext e (fun B h=>h.imp (R.sup.up B) fun h=>⟨rfl,h.2⟩) (more.cls R.sup.cls hq) (fun c x B h=>h.kn) (fun _ _=>rfl)⟩
 ·obtain⟨g,h|h⟩:=hB
  ·exact R.stb B ⟨g,h⟩
  ·exact hsz B h.2
 ·obtain⟨g,h|h⟩:=hB
  ·exact R.apt n B h1 h2 ⟨g,h⟩
  ·exact hf n B h1 h2 h.2
theorem Rel.stable(R:Rel E s N tm w ι St)(B0:Nat)(hsz:B0<w.heap.size)(hf:∀ m,isLive (s.h m)=true->blkO (ι m)≠some B0)(hq:¬KnB St B0):Rel E s N tm w ι (more St (· = B0)):=
 R.stables (· = B0) (fun B h=>h▸hsz) (fun m B h1 h2 h=>hf m h1 (h▸h2)) (fun B h=>h▸hq)
end
end Go.V

set_option linter.unusedVariables false
namespace Go.V
variable {U:Nat->Type}
def tyOk(P:Program)(t:TypeId):Ty->Prop
 | .no=>True
 | .ifc=>∃ ms,P.underlying t=some (.interface ms)
 | .int k=>P.underlying t=some (.int k)
 | .bool=>P.underlying t=some .bool
 | .str=>P.underlying t=some .string
 | .ptr e=>P.underlying t=some (.pointer e)
 | .func=>True
 | .sl e=>P.underlying t=some (.slice e)
 | .arr n e=>P.underlying t=some (.array n e)
 | .st fs=>∃ fields:Array Field,P.underlying t=some (.struct fields)/\fs=fields.toList.map fun f=>(f.type,f.offset)
def noTupG:A U->Bool
 | .tup _=>false
 | _=>true
def eqsOk(P:Program)(eqs:List TypeId):Bool:=eqs.all fun t=>!P.eqGuardType P.depth t&&(match P.underlying t with
 | some (.struct fs)=>(fs.toList.all fun f=>!(f.name == "_"))&&!P.stoodInHeld t
 | _=>true)
structure EnvOk2 (E:Env U):Prop extends EnvOk E where
 under:∀ t,tyOk E.P t (E.ty t)
 info:∀ t,E.ty t≠.no->∃ i,E.P.info? t=some i/\i.size=E.sz t/\i.bytes=E.by' t
 agg:∀ t,E.ty t≠.no->∃ d,E.P.underlying t=some d/\d.isRow=rowTy (E.ty t)
 zer:∀ t,known (zero E t)=true->∃ i z,E.P.info? t=some i/\i.zero=some z/\∀ w St ι,RV E w St ι (zero E t) z
 dfl:∀ c,E.ty c≠.no->∃ i z,E.P.info? c=some i/\i.zero=some z/\z.cells.size=E.sz c/\∀ w St ι,RC E w St ι [E.enc c (E.dflt c)] z.cells.toList []
 mixed:E.P.follows .mixedOrders=true
 glob:∀ g,loan (E.glob g)=false/\noTupG (E.glob g)=true
 eqA:∀ c,plainTy (E.ty c)=true->(∀ l m:List (U c),E.eqb c l m=true↔l=m)/\∀ x y:U c,∃ r,eqV E 1 c (E.enc c x) (E.enc c y)=some r/\(r=true↔x=y)
 eqT:eqsOk E.P E.eqs=true
 toB:∀ c l t,E.toBytes c l=some t->E.ty c=.int .u8/\∃ ns:List Int,l.map (E.enc c)=ns.map (.int .u8)/\t=bytesOf ns
 ofB:∀ c t l,E.ofBytes c t=some l->E.ty c=.int .u8/\l.map (E.enc c)=(bytesTo t).map (.int .u8)
section
variable {E:Env U} {w:World} {St:Ck U->Nat->Prop} {ι:Nat->Option Value}
theorem cells_one{v:Value}(h:isAggV v=false):v.cells.toList=[v]:=by
 cases v<;>first|rfl|simp[isAggV] at h
theorem RV.one{a:A U}{v:Value}(h:RV E w St ι a v)(ha:isAgg a=false):RC E w St ι [a] [v] []:=by
 have:=h.1
 rwa [cells_one (by rw[h.2,ha])] at this
theorem RV.mk1{a:A U}{v:Value}(h:RC E w St ι [a] [v] [])(ha:isAgg a=false)(hv:isAggV v=false):RV E w St ι a v:=
 ⟨by rw[cells_one hv];exact h,by rw[ha,hv]⟩
theorem RV.int_inv{k:IntKind}{n:Int}{v:Value}(h:RV E w St ι (.int k n) v):v=.int k n:=by
 have:=h.one rfl;cases this;rfl
theorem RV.bool_inv{b:Bool}{v:Value}(h:RV E w St ι (.bool b) v):v=.bool b:=by
 have:=h.one rfl;cases this;rfl
theorem RV.str_inv{b:ByteArray}{v:Value}(h:RV E w St ι (.str b) v):v=.string b:=by
 have:=h.one rfl;cases this;rfl
theorem RV.nilp_inv{v:Value}(h:RV E w St ι (.nilp) v):v=.pointer .none:=by
 have:=h.one rfl;cases this;rfl
theorem RV.nils_inv{c:Nat}{v:Value}(h:RV E w St ι (.nils c) v):v=.slice .none 0 0:=by
 have:=h.one rfl;cases this;rfl
theorem RV.agg_inv{l:List (A U)}{v:Value}(h:RV E w St ι (.agg l) v):∃ cs,v=.agg cs/\RC E w St ι l cs.toList []:=by
 have h2:=h.2
 cases v with
 | agg cs=>exact⟨cs,rfl,h.1.agg_inv⟩
 | _=>simp[isAggV,isAgg] at h2
theorem RV.arr_inv{c n:Nat}{l:List (U c)}{v:Value}(h:RV E w St ι (.arr c n l) v):∃ cs,v=.agg cs/\l.length=n/\RC E w St ι (l.map (E.enc c)) cs.toList []:=by
 have h2:=h.2
 cases v with
 | agg cs=>exact⟨cs,rfl,h.1.arr_inv.1,h.1.arr_inv.2.1⟩
 | _=>simp[isAggV,isAgg] at h2
theorem RV.own_inv{n:Nat}{v:Value}(h:RV E w St ι (.own n) v):∃ a L C,v=.slice a L C/\ι n=some (.slice a L C):=by
 have:=h.one rfl;cases this;exact⟨_,_,_,rfl,by assumption⟩
theorem RV.tr_inv{c:Nat}{x:KT (U c)}{p:List Step}{v:Value}(h:RV E w St ι (.tr c x p) v):KP St c x p v:=by
 have:=h.one rfl
 cases this with
 | tr h1 _=>exact h1
theorem KP.agg{c:Nat}{x:KT (U c)}{p:List Step}{v:Value}(h:KP St c x p v):isAggV v=false:=by
 rcases h with ⟨-,-,rfl⟩|⟨-,-,B,rfl,-⟩<;>rfl
theorem RV.tr{c:Nat}{x:KT (U c)}{p:List Step}{v:Value}(h:KP St c x p v):RV E w St ι (.tr c x p) v:=.mk1 (.tr h .nil) rfl h.agg
theorem RV.ptr_inv{n:Nat}{p:List Step}{v:Value}(h:RV E w St ι (.ptr n p) v):∃ u B off,ι n=some u/\base u=some (B,off)/\vp (lenV' u) p/\v=.pointer (some ⟨B,off+po p,.none⟩):=by
 have:=h.one rfl;cases this;exact⟨_,_,_,by assumption,by assumption,by assumption,rfl⟩
theorem RV.rp_inv{b:Bool}{c:Nat}{xs:List (U c)}{i:Nat}{p:List Step}{v:Value}(h:RV E w St ι (.rp b c xs i p) v) :
  ∃ ds B off,RC E w St ι (xs.map (E.enc c)) ds []/\w.rangeAt B off ds/\St (.on b) B/\i<xs.length/\vp 0 p/\v=.pointer (some ⟨B,off+(i*E.sz c+po p),.none⟩):=by
 have:=h.one rfl;cases this;exact⟨_,_,_,by assumption,by assumption,by assumption,by assumption,by assumption,rfl⟩
theorem RV.ro_inv{b:Bool}{c:Nat}{xs:List (U c)}{v:Value}(h:RV E w St ι (.ro b c xs) v) :
  ∃ a cap,v=.slice a xs.length cap/\(xs=[]\/∃ ds B off,a=some ⟨B,off,.none⟩/\RC E w St ι (xs.map (E.enc c)) ds []/\w.rangeAt B off ds/\St (.on b) B/\xs.length<=cap):=by
 have:=h.one rfl
 cases this
 ·exact⟨_,_,rfl,.inl rfl⟩
 ·exact⟨_,_,rfl,.inr ⟨_,_,_,rfl,by assumption,by assumption,by assumption,by assumption⟩⟩
theorem RV.clip_inv{b:Bool}{c:Nat}{xs:List (U c)}{v:Value}(h:RV E w St ι (.clip b c xs) v) :
  ∃ a,v=.slice a xs.length xs.length/\(xs=[]\/∃ ds B off,a=some ⟨B,off,.none⟩/\RC E w St ι (xs.map (E.enc c)) ds []/\w.rangeAt B off ds/\St (.on b) B):=by
 have:=h.one rfl
 cases this
 ·exact⟨_,rfl,.inl rfl⟩
 ·exact⟨_,rfl,.inr ⟨_,_,_,rfl,by assumption,by assumption,by assumption⟩⟩
theorem RV.sub_inv{n c i len:Nat}{v:Value}(h:RV E w St ι (.sub n c i len) v):∃ a a' L C cap,ι n=some (.slice a L C)/\i+len<=L/\len<=cap/\i+cap<=C/\(cap=0\/a'=a.map (·.add (i*E.sz c)))/\v=.slice a' len cap:=by
 have:=h.one rfl;cases this;exact⟨_,_,_,_,_,by assumption,by assumption,by assumption,by assumption,by assumption,rfl⟩
theorem RV.bsl_inv{n:Nat}{p:List Step}{c M i len:Nat}{v:Value}(h:RV E w St ι (.bsl n p c M i len) v):∃ B a' cap,ι n=some (.pointer (some ⟨B,0,.none⟩))/\i+len<=M/\len<=cap/\i+cap<=M/\(cap=0\/a'=some ⟨B,po p+i*E.sz c,.none⟩)/\vp 0 p/\v=.slice a' len cap:=by
 have:=h.one rfl;cases this;exact⟨_,_,_,by assumption,by assumption,by assumption,by assumption,by assumption,by assumption,rfl⟩
theorem RV.clo_inv{f:FuncId}{l:List (A U)}{v:Value}(h:RV E w St ι (.clo f l) v):∃ vs,v=fv f vs/\RC E w St ι l ((vs.toList.map (·.cells.toList)).flatten) [] ∧
  vs.toList.map (fun v=>(v.cells.size,isAggV v))=l.map (fun a=>(size E.sz a,isAgg a)):=by
 have:=h.one rfl;cases this;exact⟨_,rfl,by assumption,by assumption⟩
theorem RT.rv{a:A U}{v:Value}(h:RT E w St ι a v)(hk:known a=true):RV E w St ι a v:=by
 cases a<;>first|exact h|simp[known] at hk
theorem RT.of_rv{a:A U}{v:Value}(h:RV E w St ι a v):RT E w St ι a v:=by
 cases a<;>first|exact h|trivial|skip
 rename_i l
 exact absurd h.1 (by intro h;cases h)
theorem const_ok(ok:EnvOk2 E)(t:TypeId)(v:Value):RT E w St ι (constA E t v) v:=by
 unfold constA
 split
 ·exact .mk1 (.int .nil) rfl rfl
 ·exact .mk1 (.bool .nil) rfl rfl
 ·exact .mk1 (.str .nil) rfl rfl
 ·cases Nat.beq t E.kn.kp
  ·exact .mk1 (.nilp .nil) rfl rfl
  ·exact .mk1 (.tr (.inl ⟨rfl,rfl,rfl⟩) .nil) rfl rfl
 ·exact .mk1 (.nilf .nil) rfl rfl
 ·exact .mk1 (.iv (x:=.nil) rfl .nil) rfl rfl
 ·split
  ·exact .mk1 (.nils .nil) rfl rfl
  ·trivial
 ·trivial
theorem RV.mkclo{f:FuncId}{caps:List (A U)}{vs:Array Value}(h1:RC E w St ι caps ((vs.toList.map (·.cells.toList)).flatten) [])(h2:vs.toList.map (fun v=>(v.cells.size,isAggV v))=caps.map (fun a=>(size E.sz a,isAgg a))) :
  RV E w St ι (.clo f caps) (fv f vs):=.mk1 (.clo h1 h2 .nil) rfl (fv_agg f vs)
theorem RV.clo0{f:FuncId}(hb:Nat.blt f 1000000=true):RV E w St ι (.clo f []) (.func (.func f) #[] #[]):=by
 rw[<-fv_lt hb];exact RV.mkclo .nil rfl
theorem func_ok(s:S U)(t:TypeId)(a:Act)(f:FuncId):RT E w St ι (s.ev E t (.func f)) (a.eval (.func f)):=by
 show RT E w St ι (cond (Nat.blt f 1000000) (.clo f []) .none) (.func (.func f) #[] #[])
 cases hb:Nat.blt f 1000000 with
 | false=>trivial
 | true=>exact RV.clo0 hb
theorem ev_ok(ok:EnvOk2 E){s:S U}{N:Nat}{a:Act}(R:Rel E s N a.tmps w ι St)(t:TypeId)(x:Operand):RT E w St ι (s.ev E t x) (a.eval x):=by
 cases x with
 | tmp d=>exact R.tmp d
 | const v=>exact const_ok ok t v
 | func f=>exact func_ok s t a f
 | global g=>exact (R.sup.glo g).1.ext ⟨fun _ _ h=>h,fun _ _ h=>by simp at h,fun _ _=>rfl,Nat.le_refl _⟩
def Own(s:S U)(ι:Nat->Option Value)(B:Nat):Prop:=∃ n,isLive (s.h n)=true/\blkO (ι n)=some B
structure OpOk (E:Env U) (s:S U) (N:Nat) (a:Act) (w:World) (ι:Nat->Option Value) (St:Ck U->Nat->Prop) (b:Nat) (o:Oper) (wr:List (Nat×AObj U)) (v:A U)
  (nx:Next) (u:Value) (w':World) (ι':Nat->Option Value) (St':Ck U->Nat->Prop):Prop where
 run:(execOp a.eval o).run E.P w=.ok nx w'
 nxt:nx=.value u\/(nx=.skip/\u=undef)
 rel:Rel E { s with h:=upds s.h wr } N a.tmps w' ι' St'
 val:RT E w' St' ι' v u
 fr:Fr (Own s ι) w w'
 nm:∀ n v,ι n=some v->ι' n=some v
 new:∀ n,ι' n≠none->ι n≠none\/(b<=n/\n<b+100)
 own:∀ B,Own { s with h:=upds s.h wr } ι' B->Own s ι B\/w.heap.size<=B
 gr:∀ g B,St' g B->St g B\/Own s ι B
 kn:∀ c x B,St (.kn c x) B->St' (.kn c x) B
def Ops(E:Env U)(s:S U)(N:Nat)(a:Act)(w:World)(ι:Nat->Option Value)(St:Ck U->Nat->Prop)(b:Nat)(o:Oper)(wr:List (Nat×AObj U))(v:A U):Prop:=
 ∃ nx u w' ι' St',OpOk E s N a w ι St b o wr v nx u w' ι' St'
variable {s:S U} {N:Nat} {a:Act} {b:Nat} {o:Oper}
theorem Ops.pure(R:Rel E s N a.tmps w ι St){v:A U}{u:Value}(hr:(execOp a.eval o).run E.P w=.ok (.value u) w)(hv:RT E w St ι v u):Ops E s N a w ι St b o [] v:=
 ⟨_,_,_,_,_,hr,.inl rfl,R,hv,Fr.refl _ _,fun _ _ h=>h,fun _ h=>.inl h,fun _ h=>.inl h,fun _ _ h=>.inl h,fun _ _ _ h=>h⟩
theorem Ops.fresh(R:Rel E s N a.tmps w ι St)(hb:ι b=none)(hd:isLive (s.h b)=false){ob:AObj U}{v:A U}{u x:Value}{w':World}(hr:(execOp a.eval o).run E.P w=.ok (.value u) w')
  (hf:Fr (fun _=>False) w w') (hx:blk x=none\/∃ B,blk x=some B/\w.heap.size<=B)
  (ho:RO E w' St (upd ι b (some x)) ob (some x)) (hv:RT E w' St (upd ι b (some x)) v u):Ops E s N a w ι St b o [(b,ob)] v:=by
 have R1:Rel E s N a.tmps w' ι St:=R.world hf.size (fun B hB=>hf.same B (R.stb B hB) id) (fun n B hl hB=>by
  have h0:=R.obj n
  cases hn:s.h n with
  | dead=>rw[hn] at hl;simp[isLive] at hl
  | fz=>rw[hn] at hl;simp[isLive] at hl
  | box q=>
   rw[hn] at h0
   obtain⟨B',cs,h1,-,-,-,h5⟩:=h0
   rw[h1] at hB
   simp only[blkO,Option.bind_some,blk,base,Option.map_some,Option.some.injEq] at hB
   exact hf.same B (hB▸h5) id
  | lp f lid live vals j=>
   rw[hn] at h0
   obtain⟨r,L,h1,h5,-⟩:=h0
   rw[h1] at hB
   simp only[blkO,Option.bind_some,blk,base,Option.map_some,Option.some.injEq] at hB
   exact hf.same B (hB▸(Array.getElem?_eq_some_iff.1 h5).1) id
  | lst c xs=>
   rw[hn] at h0
   rcases h0 with ⟨⟨a',h1⟩,-⟩|⟨B',off,cap,ds,h1,-,-,-,-,h5⟩
   ·rw[h1] at hB;simp[blkO,blk,base_zero] at hB
   ·rw[h1] at hB
    simp only[blkO,Option.bind_some,blk,base,Option.map_some,Option.some.injEq] at hB
    exact hf.same B (hB▸h5) id)
 have hlt:∀ m B,isLive (s.h m)=true->blkO (ι m)=some B->B<w.heap.size:=by
  intro n B hl hB
  have h0:=R.obj n
  cases hn:s.h n with
  | dead=>rw[hn] at hl;simp[isLive] at hl
  | fz=>rw[hn] at hl;simp[isLive] at hl
  | box q=>
   rw[hn] at h0
   obtain⟨B',cs,h1,-,-,-,h5⟩:=h0
   rw[h1] at hB
   simp only[blkO,Option.bind_some,blk,base,Option.map_some,Option.some.injEq] at hB
   exact hB▸h5
  | lp f lid live vals j=>
   rw[hn] at h0
   obtain⟨r,L,h1,h5,-⟩:=h0
   rw[h1] at hB
   simp only[blkO,Option.bind_some,blk,base,Option.map_some,Option.some.injEq] at hB
   exact hB▸(Array.getElem?_eq_some_iff.1 h5).1
  | lst c xs=>
   rw[hn] at h0
   rcases h0 with ⟨⟨a',h1⟩,-⟩|⟨B',off,cap,ds,h1,-,-,-,-,h5⟩
   ·rw[h1] at hB;simp[blkO,blk,base_zero] at hB
   ·rw[h1] at hB
    simp only[blkO,Option.bind_some,blk,base,Option.map_some,Option.some.injEq] at hB
    exact hB▸h5
 have R2:=R1.adopt b ob x hd (.inl hb) ho (fun B hl hB=>by
  rcases hx with h|⟨B',h,hge⟩
  ·rw[h] at hB;simp at hB
  ·rw[h] at hB
   simp only[Option.some.injEq] at hB
   subst hB
   exact⟨fun hs=>absurd (R.stb _ hs) (by omega),fun m hm hm2=>absurd (hlt m _ hm hm2) (by omega)⟩)
 refine⟨_,_,_,_,_,hr,.inl rfl,R2,hv,hf.mono (fun _ _ h=>h.elim),?_,?_,?_,fun _ _ h=>.inl h,fun _ _ _ h=>h⟩
 ·intro n v h
  by_cases e:n=b
  ·subst e;rw[hb] at h;simp at h
  ·rw[upd_ne _ _ e];exact h
 ·intro n h
  by_cases e:n=b
  ·exact .inr ⟨by omega,by omega⟩
  ·rw[upd_ne _ _ e] at h;exact .inl h
 ·rintro B ⟨n,h1,h2⟩
  by_cases e:n=b
  ·subst e
   rw[upd_same] at h2
   rcases hx with h|⟨B',h,hge⟩
   ·simp[blkO,h] at h2
   ·simp only[blkO,Option.bind_some,h,Option.some.injEq] at h2
    exact .inr (h2▸hge)
  ·rw[upd_ne _ _ e] at h2
   simp only[upds,upd_ne _ _ e] at h1
   exact .inl ⟨n,h1,h2⟩
end
end Go.V

set_option linter.unusedVariables false
namespace Go.V
variable {U:Nat->Type}
section
variable {E:Env U} {w:World} {St:Ck U->Nat->Prop} {ι:Nat->Option Value} {s:S U} {N:Nat} {a:Act} {b:Nat} {o:Oper}
theorem Rel.lt{tm:Array Value}(R:Rel E s N tm w ι St)(n B:Nat)(hl:isLive (s.h n)=true)(hB:blkO (ι n)=some B):B<w.heap.size:=by
 have h0:=R.obj n
 cases hn:s.h n with
 | dead=>rw[hn] at hl;simp[isLive] at hl
 | fz=>rw[hn] at hl;simp[isLive] at hl
 | box q=>
  rw[hn] at h0
  obtain⟨B',cs,h1,-,-,-,h5⟩:=h0
  rw[h1] at hB
  simp only[blkO,Option.bind_some,blk,base,Option.map_some,Option.some.injEq] at hB
  exact hB▸h5
 | lp f lid live vals j=>
  rw[hn] at h0
  obtain⟨r,L,h1,h5,-⟩:=h0
  rw[h1] at hB
  simp only[blkO,Option.bind_some,blk,base,Option.map_some,Option.some.injEq] at hB
  exact hB▸(Array.getElem?_eq_some_iff.1 h5).1
 | lst c xs=>
  rw[hn] at h0
  rcases h0 with ⟨⟨a',h1⟩,-⟩|⟨B',off,cap,ds,h1,-,-,-,-,h5⟩
  ·rw[h1] at hB;simp[blkO,blk,base_zero] at hB
  ·rw[h1] at hB
   simp only[blkO,Option.bind_some,blk,base,Option.map_some,Option.some.injEq] at hB
   exact hB▸h5
theorem Ops.store(R:Rel E s N a.tmps w ι St){n B:Nat}{q q':A U}{cs':List Value}{off:Nat}{ds:List Value}{v:A U}{nx:Next}{u:Value}
  (hn:s.h n=.box q) (hι:ι n=some (.pointer (some ⟨B,0,.none⟩)))
  (hr:(execOp a.eval o).run E.P w=.ok nx (w.setCells B off ds)) (hx:nx=.value u\/(nx=.skip/\u=undef)) (hlt:B<w.heap.size)
  (hc:RC E w St ι [q'] cs' []) (hR:(w.setCells B off ds).rangeAt B 0 cs') (hT:(w.setCells B off ds).there B 0 cs'.length)
  (hv:∀ w',Ext w St ι w' St ι->RT E w' St ι v u):Ops E s N a w ι St b o [(n,.box q')] v:=by
 have hl:isLive (s.h n)=true:=by rw[hn];rfl
 have hB:blkO (ι n)=some B:=by rw[hι];rfl
 have hSt:¬An St B:=R.apt n B hl hB
 have hsame:∀ B',B'≠B->(w.setCells B off ds).heap[B']?=w.heap[B']?:=fun B' h=>heap_setCells B ds off w B' h
 have x:Ext w St ι (w.setCells B off ds) St ι:=⟨fun _ _ h=>h,fun _ _ h=>h,fun b hb=>hsame b fun e=>hSt (e▸hb.an),by rw[size_setCells];exact Nat.le_refl _⟩
 have R1:=(R.kill n).world (w':=w.setCells B off ds) (by rw[size_setCells];exact Nat.le_refl _) (fun B' hB'=>hsame B' fun e=>hSt (e▸hB'))
  (fun m B' hm hB'=>hsame B' fun e=>by
   subst e
   by_cases e2:m=n
   ·subst e2;change isLive (upd s.h m .dead m)=true at hm;rw[upd_same] at hm;simp[isLive] at hm
   ·change isLive (upd s.h n .dead m)=true at hm;rw[upd_ne _ _ e2] at hm
    exact e2 (R.dis m n B' hm hl hB' hB))
 have hι':upd ι n (some (.pointer (some ⟨B,0,.none⟩)))=ι:=by rw[<-hι,upd_self]
 have R2:=R1.adopt n (.box q') (.pointer (some ⟨B,0,.none⟩)) (by show isLive (upd s.h n .dead n)=false;rw[upd_same];rfl) (.inr hι)
  (by rw[hι'];exact⟨B,cs',rfl,hc.ext x,hR,hT,by rw[size_setCells];exact hlt⟩)
  (fun B' _ hB'=>by
   simp only[blk,base,Option.map_some,Option.some.injEq] at hB'
   subst hB'
   refine⟨hSt,fun m hm hm2=>?_⟩
   by_cases e2:m=n
   ·subst e2;change isLive (upd s.h m .dead m)=true at hm;rw[upd_same] at hm;simp[isLive] at hm
   ·change isLive (upd s.h n .dead m)=true at hm;rw[upd_ne _ _ e2] at hm
    exact e2 (R.dis m n B hm hl hm2 hB))
 rw[hι'] at R2
 have R3:Rel E { s with h:=upds s.h [(n,.box q')] } N a.tmps (w.setCells B off ds) ι St:=by
  have e:upd (upd s.h n .dead) n (.box q')=upd s.h n (.box q'):=upd_upd _ _ _ _
  simp only[] at R2
  rw[e] at R2
  exact R2
 refine⟨nx,u,_,ι,St,hr,hx,R3,hv _ x,Fr.setCells w B off ds ⟨n,hl,hB⟩,fun _ _ h=>h,fun _ h=>.inl h,?_,fun _ _ h=>.inl h,fun _ _ _ h=>h⟩
 rintro B' ⟨m,h1,h2⟩
 by_cases e:m=n
 ·subst e;exact .inl ⟨m,hl,h2⟩
 ·simp only[upds,upd_ne _ _ e] at h1
  exact .inl ⟨m,h1,h2⟩
theorem op_move(ok:EnvOk2 E)(R:Rel E s N a.tmps w ι St)(x:Operand)(ho:o.op=.move x\/o.op=.assign x):Ops E s N a w ι St b o [] (s.ev E o.type x):=
 Ops.pure R (u:=a.eval x) (by rcases ho with h|h<;>simp[execOp,h]) (ev_ok ok R _ _)
theorem op_pick(ok:EnvOk2 E)(R:Rel E s N a.tmps w ι St)(c x y:Operand)(ho:o.op=.pick c x y){q:Bool}(hc:s.ev E 0 c=.bool q) :
  Ops E s N a w ι St b o [] (cond q (s.ev E o.type x) (s.ev E o.type y)):=by
 have h:=ev_ok ok R 0 c
 rw[hc] at h
 have hb:=RV.bool_inv h
 refine Ops.pure R (u:=cond q (a.eval x) (a.eval y)) ?_ ?_
 ·cases q<;>simp[execOp,ho,hb,asBool]
 ·cases q
  ·exact ev_ok ok R _ _
  ·exact ev_ok ok R _ _
theorem there_alloc{q:Prop}(w:World)(cs:Array Value)(t:TypeId):thereA q (w.alloc (.cells cs t)) w.heap.size 0 cs.size:=by
 refine⟨fun j hj=>?_,fun _ j=>by simp only[World.frozen?,World.alloc];simp⟩
 constructor
 ·simp[hj]
 ·simp only[World.frozen?,World.alloc]
  simp
theorem rangeAt_alloc(w:World)(cs:Array Value)(t:TypeId):(w.alloc (.cells cs t)).rangeAt w.heap.size 0 cs.toList:=by
 intro j v hj
 simp only[Nat.zero_add,World.cell?_alloc_new]
 simpa using hj
theorem fresh_ext{v:Option Value}(hb:ι b=none){w':World}(hf:Fr (fun _=>False) w w')(hs:∀ B,An St B->B<w.heap.size):Ext w St ι w' St (upd ι b v):=
 ⟨fun _ _ h=>h,fun n u h=>by
  by_cases e:n=b
  ·subst e;rw[hb] at h;simp at h
  ·rw[upd_ne _ _ e];exact h,fun B hB=>hf.same B (hs B hB.an) id,hf.size⟩
theorem op_box(ok:EnvOk2 E)(R:Rel E s N a.tmps w ι St)(hb:ι b=none)(hd:isLive (s.h b)=false)(t:TypeId)(x:Operand)(ho:o.op=.box t x)
  (hk:known (s.ev E t x)=true):Ops E s N a w ι St b o [(b,.box (s.ev E t x))] (.ptr b []):=by
 have h:=(ev_ok ok R t x).rv hk
 have hf:=Fr.alloc (fun _=>False) w (.cells (a.eval x).cells t)
 have e:=fresh_ext (v:=some (.pointer (some ⟨w.heap.size,0,.none⟩))) hb hf R.stb
 refine Ops.fresh R hb hd (u:=.pointer (some ⟨w.heap.size,0,.none⟩)) (x:=.pointer (some ⟨w.heap.size,0,.none⟩)) (w':=w.alloc (.cells (a.eval x).cells t)) ?_ hf
  (.inr ⟨w.heap.size,rfl,Nat.le_refl _⟩) ?_ ?_
 ·simp[execOp,ho,Instr.box,newVar,newRow]
 ·refine⟨w.heap.size,(a.eval x).cells.toList,rfl,h.1.ext e,rangeAt_alloc _ _ _,?_,by simp⟩
  simpa using (there_alloc (q:=True) w (a.eval x).cells t).1
 ·refine RT.of_rv (.mk1 (.ptr (upd_same _ _ _) rfl trivial .nil) rfl rfl)
theorem op_alloc(ok:EnvOk2 E)(R:Rel E s N a.tmps w ι St)(hb:ι b=none)(hd:isLive (s.h b)=false)(t:TypeId)(ho:o.op=.alloc t)
  (hk:known (zero E t)=true):Ops E s N a w ι St b o [(b,.box (zero E t))] (.ptr b []):=by
 obtain⟨i,z,hi,hz,hv⟩:=ok.zer t hk
 have hf:=Fr.alloc (fun _=>False) w (.cells z.cells t)
 refine Ops.fresh R hb hd (u:=.pointer (some ⟨w.heap.size,0,.none⟩)) (x:=.pointer (some ⟨w.heap.size,0,.none⟩)) (w':=w.alloc (.cells z.cells t)) ?_ hf
  (.inr ⟨w.heap.size,rfl,Nat.le_refl _⟩) ?_ ?_
 ·simp[execOp,ho,Instr.alloc,zeroValue,typeInfo,hi,hz,newVar,newRow]
 ·refine⟨w.heap.size,z.cells.toList,rfl,(hv _ _ _).1,rangeAt_alloc _ _ _,?_,by simp⟩
  simpa using (there_alloc (q:=True) w z.cells t).1
 ·refine RT.of_rv (.mk1 (.ptr (upd_same _ _ _) rfl trivial .nil) rfl rfl)
theorem Addr.add_eq(B off n:Nat):(⟨B,off,.none⟩:Addr).add n=⟨B,off+n,.none⟩:=Addr.add_mid B off n
theorem under_st(ok:EnvOk2 E){t:TypeId}{fs:List (TypeId×Nat)}(h:E.ty t=.st fs):∃ fields:Array Field,E.P.underlying t=some (.struct fields)/\fs=fields.toList.map fun f=>(f.type,f.offset):=by
 have:=ok.under t;rw[h] at this;exact this
theorem under_sl(ok:EnvOk2 E){t e:TypeId}(h:E.ty t=.sl e):E.P.underlying t=some (.slice e):=by
 have:=ok.under t;rw[h] at this;exact this
theorem under_arr(ok:EnvOk2 E){t e:TypeId}{n:Nat}(h:E.ty t=.arr n e):E.P.underlying t=some (.array n e):=by
 have:=ok.under t;rw[h] at this;exact this
theorem field_of{fields:Array Field}{fs:List (TypeId×Nat)}(h:fs=fields.toList.map fun f=>(f.type,f.offset)){k:Nat}{x:TypeId×Nat}(hk:fieldAt fs k=some x) :
  ∃ f,fields[k]?=some f/\x=(f.type,f.offset):=by
 subst h
 simp only[fieldAt,List.getElem?_map,Option.map_eq_some_iff] at hk
 obtain⟨f,h1,rfl⟩:=hk
 exact⟨f,by simpa using h1,rfl⟩
theorem fits_iff{t:TypeId}{v:A U}(h:fits E t v=true):known v=true/\size E.sz v=E.sz t/\isAgg v=rowTy (E.ty t)/\E.ty t≠.no:=by
 simp only[fits,Bool.and_eq_true,beq_iff_eq,Bool.not_eq_true'] at h
 refine⟨h.1,Nat.eq_of_beq_eq_true h.2.1,h.2.2.1,fun e=>?_⟩
 rw[e] at h;simp[isNo] at h
theorem rangeAt_sub{B off:Nat}{cs:List Value}(h:w.rangeAt B off cs)(k m:Nat):w.rangeAt B (off+k) ((cs.drop k).take m):=by
 intro j v hj
 have:cs[k+j]?=some v:=by
  rw[List.getElem?_take] at hj
  split at hj
  ·rwa [List.getElem?_drop] at hj
  ·simp at hj
 have:=h _ _ this
 rwa [show off+k+j=off+(k+j) by omega]
theorem vp_zero{L:Nat}:∀ {p:List Step},vp 0 p->vp L p
 | [],_=>trivial
 | .fld _ _::p,h=>vp_zero (p:=p) h
 | .idx _ _ _::p,h=>⟨h.1,vp_zero h.2⟩
 | .elt _ _::_,h=>absurd h.1 (by omega)
theorem elem_at(ok:EnvOk E){c:Nat}{xs:List (U c)}{ds:List Value}{B off i:Nat}{L:Nat}{p:List Step}(h:RC E w St ι (xs.map (E.enc c)) ds [])(hr:w.rangeAt B off ds)(hi:i<xs.length)
  (hv:vp L p) (hk:known (getP E (E.enc c (xs.getD i (E.dflt c))) p)=true) :
  ∃ es,RC E w St ι [getP E (E.enc c (xs.getD i (E.dflt c))) p] es []/\w.rangeAt B (off+(i*E.sz c+po p)) es:=by
 obtain⟨q1,q2⟩:=h.elem ok hi
 obtain⟨r1,r2⟩:=q1.getP ok p hv hk
 refine⟨_,r1,?_⟩
 have:=rangeAt_sub (rangeAt_sub hr (i*E.sz c) (E.sz c)) (po p) (size E.sz (getP E (E.enc c (xs.getD i (E.dflt c))) p))
 rwa [show off+(i*E.sz c+po p)=off+i*E.sz c+po p by omega]
theorem getO_at(ok:EnvOk E){tm:Array Value}(R:Rel E s N tm w ι St){n B off:Nat}{u:Value}{p:List Step}(hι:ι n=some u)(hb:base u=some (B,off))(hv:vp (lenV' u) p)
  (hk:known (getO E (s.h n) p)=true):∃ es,RC E w St ι [getO E (s.h n) p] es []/\w.rangeAt B (off+po p) es:=by
 have h0:=R.obj n
 cases hn:s.h n with
 | dead=>rw[hn] at hk;cases p<;>simp[getO,known] at hk
 | lp f lid live vals j=>rw[hn] at hk;cases p<;>simp[getO,known] at hk
 | box q=>
  rw[hn] at h0 hk
  obtain⟨B',cs,h1,h2,h3,h4,h5⟩:=h0
  rw[hι] at h1
  simp only[Option.some.injEq] at h1
  subst h1
  simp only[base,Option.some.injEq,Prod.mk.injEq] at hb
  obtain⟨rfl,rfl⟩:=hb
  obtain⟨r1,r2⟩:=h2.getP ok p hv hk
  exact⟨_,r1,rangeAt_sub h3 _ _⟩
 | lst c xs=>
  rw[hn] at h0 hk
  cases p with
  | nil=>simp[getO,known] at hk
  | cons st p=>
   cases st with
   | elt i e=>
    simp only[getO] at hk ⊢
    cases he:Nat.beq (E.sz c) e with
    | false=>rw[he] at hk;simp[known] at hk
    | true=>
     rw[he] at hk
     simp only[cond_true] at hk ⊢
     have he':=Nat.eq_of_beq_eq_true he
     rcases h0 with ⟨⟨a',h1⟩,h2⟩|⟨B',off',cap,ds,h1,h2,h3,h4,h5,h6⟩
     ·rw[hι] at h1
      simp only[Option.some.injEq] at h1
      subst h1
      simp[base_zero] at hb
     ·rw[hι] at h1
      simp only[Option.some.injEq] at h1
      subst h1
      simp only[base,Option.some.injEq,Prod.mk.injEq] at hb
      obtain⟨rfl,rfl⟩:=hb
      simp only[po,<-he']
      exact elem_at ok h2 h3 hv.1 hv.2 hk
   | _=>simp[getO,known] at hk
 | fz c xs=>
  rw[hn] at h0 hk
  cases p with
  | nil=>simp[getO,known] at hk
  | cons st p=>
   cases st with
   | elt i e=>
    simp only[getO] at hk ⊢
    cases he:Nat.beq (E.sz c) e with
    | false=>rw[he] at hk;simp[known] at hk
    | true=>
     rw[he] at hk
     simp only[cond_true] at hk ⊢
     have he':=Nat.eq_of_beq_eq_true he
     obtain⟨v,h1,h2⟩:=h0
     rw[hι] at h1
     simp only[Option.some.injEq] at h1
     subst h1
     cases h2 with
     | roE h=>exact absurd hv.1 (by simp[lenV'])
     | ro q1 q2 q3 q4 _=>
      have hb':=(base_inv hb).1
      simp only[Prod.mk.injEq] at hb'
      obtain⟨rfl,rfl⟩:=hb'
      simp only[po,<-he']
      exact elem_at ok q1 q2 hv.1 hv.2 hk
   | _=>simp[getO,known] at hk
theorem oneCell_agg{v:Value}(h:v.oneCell'=true):isAggV v=false:=by
 cases v<;>first|rfl|simp[Value.oneCell'] at h
theorem load_run(ok:EnvOk2 E){t:TypeId}{v:A U}{B off:Nat}{ds:List Value}(hf:fits E t v=true)(h:RC E w St ι [v] ds [])(hr:w.rangeAt B off ds) :
  ∃ x,(Instr.loadAt t (.pointer (some ⟨B,off,.none⟩))).run E.P w=.ok x w/\RV E w St ι v x:=by
 obtain⟨h1,h2,h3,h4⟩:=fits_iff hf
 obtain⟨i,hi,hs,-⟩:=ok.info t h4
 obtain⟨d,hd,hrow⟩:=ok.agg t h4
 have hl:=h.length ok.toEnvOk
 simp only[sizes,Nat.add_zero] at hl
 cases ha:isAgg v with
 | true=>
  refine⟨.agg ds.toArray,?_,by show RC E w St ι [v] ds.toArray.toList [];simpa using h,by rw[ha];rfl⟩
  exact run_loadAt_mid w B off t ds d hr hd (by rw[hrow,<-h3,ha]) (by rw[hi];simp[hs,hl,h2])
 | false=>
  have hs1:size E.sz v=1:=by cases v<;>first|rfl|simp[isAgg] at ha
  rw[hs1] at hl
  obtain⟨x,rfl⟩:∃ x,ds=[x]:=by
   match ds,hl with
   | [x],_=>exact⟨x,rfl⟩
  have hc:=hr 0 x rfl
  rw[Nat.add_zero] at hc
  have hx:=oneCell_agg (h.oneCell x (by simp))
  refine⟨x,?_,.mk1 h ha hx⟩
  have hagg:(Go.isAgg t).run E.P w=.ok false w:=by
   unfold Go.isAgg
   rw[Sem.run_bind,run_underlying hd w]
   rw[<-h3,ha] at hrow
   cases d<;>simp_all
  simp[Instr.loadAt,Instr.sureAddr,loadVar,hagg,hc]
theorem op_load(ok:EnvOk2 E)(R:Rel E s N a.tmps w ι St)(t:TypeId)(x:Operand)(ho:o.op=.load t x){n:Nat}{p:List Step}(hx:s.ev E 0 x=.ptr n p)
  (hf:fits E t (getO E (s.h n) p)=true):Ops E s N a w ι St b o [] (getO E (s.h n) p):=by
 have h:=ev_ok ok R 0 x
 rw[hx] at h
 obtain⟨u,B,off,h1,h2,h3,h4⟩:=RV.ptr_inv h
 obtain⟨es,q1,q2⟩:=getO_at ok.toEnvOk R h1 h2 h3 (fits_iff hf).1
 obtain⟨y,r1,r2⟩:=load_run ok hf q1 q2
 exact Ops.pure R (u:=y) (by simp[execOp,ho,h4,r1]) (RT.of_rv r2)
theorem op_load_rp(ok:EnvOk2 E)(R:Rel E s N a.tmps w ι St)(t:TypeId)(x:Operand)(ho:o.op=.load t x){g:Bool}{c i:Nat}{l:List (U c)}{p:List Step}(hx:s.ev E 0 x=.rp g c l i p)
  (hf:fits E t (getP E (E.enc c (l.getD i (E.dflt c))) p)=true):Ops E s N a w ι St b o [] (getP E (E.enc c (l.getD i (E.dflt c))) p):=by
 have h:=ev_ok ok R 0 x
 rw[hx] at h
 obtain⟨ds,B,off,h1,h2,h3,h4,h5,h6⟩:=RV.rp_inv h
 obtain⟨es,q1,q2⟩:=elem_at ok.toEnvOk h1 h2 h4 h5 (fits_iff hf).1
 obtain⟨y,r1,r2⟩:=load_run ok hf q1 q2
 exact Ops.pure R (u:=y) (by simp[execOp,ho,h6,r1]) (RT.of_rv r2)
theorem fieldAt_run(ok:EnvOk2 E){t:TypeId}{fs:List (TypeId×Nat)}{k:Nat}{f:TypeId×Nat}(ht:E.ty t=.st fs)(hk:fieldAt fs k=some f)(hz:(Nat.beq (E.sz f.1) 0||isNo (E.ty f.1))=false)(B off:Nat) :
  (Instr.fieldAt t (.pointer (some ⟨B,off,.none⟩)) k).run E.P w=.ok (.pointer (some ⟨B,off+f.2,.none⟩)) w:=by
 obtain⟨fields,h1,h2⟩:=under_st ok ht
 obtain⟨g,h3,rfl⟩:=field_of h2 hk
 simp only[Bool.or_eq_false_iff] at hz
 obtain⟨i,hi,hs,-⟩:=ok.info g.type (fun e=>by rw[e] at hz;simp[isNo] at hz)
 have h0:i.size≠0:=by rw[hs];intro e;rw[e] at hz;simp at hz
 simp[Instr.fieldAt,run_underlying h1,h3,Instr.sureAddr,fieldPlace,sizeOf,typeInfo,hi,h0,Addr.add_eq]
theorem op_fieldAddr(ok:EnvOk2 E)(R:Rel E s N a.tmps w ι St)(t:TypeId)(x:Operand)(k:Nat)(ho:o.op=.fieldAddr t x k){n:Nat}{p:List Step}(hx:s.ev E 0 x=.ptr n p)
  {fs:List (TypeId×Nat)} {f:TypeId×Nat} (ht:E.ty t=.st fs) (hk:fieldAt fs k=some f) (hz:(Nat.beq (E.sz f.1) 0||isNo (E.ty f.1))=false) :
  Ops E s N a w ι St b o [] (.ptr n (p++[.fld k f.2])):=by
 have h:=ev_ok ok R 0 x
 rw[hx] at h
 obtain⟨u,B,off,h1,h2,h3,h4⟩:=RV.ptr_inv h
 refine Ops.pure R (u:=.pointer (some ⟨B,off+po p+f.2,.none⟩)) (by simp[execOp,ho,h4,fieldAt_run ok ht hk hz]) (RT.of_rv (.mk1 ?_ rfl rfl))
 have:off+po p+f.2=off+po (p++[.fld k f.2]):=by simp[po_append,po];omega
 rw[this]
 exact .ptr h1 h2 ((vp_append _ _ _).2 ⟨h3,trivial⟩) .nil
theorem op_fieldAddr_rp(ok:EnvOk2 E)(R:Rel E s N a.tmps w ι St)(t:TypeId)(x:Operand)(k:Nat)(ho:o.op=.fieldAddr t x k){g:Bool}{c i:Nat}{l:List (U c)}{p:List Step}(hx:s.ev E 0 x=.rp g c l i p)
  {fs:List (TypeId×Nat)} {f:TypeId×Nat} (ht:E.ty t=.st fs) (hk:fieldAt fs k=some f) (hz:(Nat.beq (E.sz f.1) 0||isNo (E.ty f.1))=false) :
  Ops E s N a w ι St b o [] (.rp g c l i (p++[.fld k f.2])):=by
 have h:=ev_ok ok R 0 x
 rw[hx] at h
 obtain⟨ds,B,off,h1,h2,h3,h4,h5,h6⟩:=RV.rp_inv h
 refine Ops.pure R (u:=.pointer (some ⟨B,off+(i*E.sz c+po p)+f.2,.none⟩)) (by simp[execOp,ho,h6,fieldAt_run ok ht hk hz]) (RT.of_rv (.mk1 ?_ rfl rfl))
 have:off+(i*E.sz c+po p)+f.2=off+(i*E.sz c+po (p++[.fld k f.2])):=by simp[po_append,po];omega
 rw[this]
 exact .rp h1 h2 h3 h4 ((vp_append _ _ _).2 ⟨h5,trivial⟩) .nil
theorem indexAt_slice(ok:EnvOk2 E){t e:TypeId}(ht:E.ty t=.sl e)(hne:E.ty e≠.no)(B off L C:Nat)(k:IntKind)(n:Int)(h0:0<=n)(h1:n<L) :
  (Instr.indexAt t (.slice (some ⟨B,off,.none⟩) L C) (.int k n)).run E.P w=.ok (.pointer (some ⟨B,off+n.toNat*E.sz e,.none⟩)) w:=by
 obtain⟨i,hi,hs,-⟩:=ok.info e hne
 simp[Instr.indexAt,asIntOf,run_underlying (under_sl ok ht),h0,h1,sizeOf,typeInfo,hi,hs,Addr.add_eq]
theorem indexAt_arr(ok:EnvOk2 E){t e:TypeId}{L:Nat}(ht:E.ty t=.arr L e)(hne:E.ty e≠.no)(B off:Nat)(k:IntKind)(n:Int)(h0:0<=n)(h1:n<L) :
  (Instr.indexAt t (.pointer (some ⟨B,off,.none⟩)) (.int k n)).run E.P w=.ok (.pointer (some ⟨B,off+n.toNat*E.sz e,.none⟩)) w:=by
 obtain⟨i,hi,hs,-⟩:=ok.info e hne
 simp[Instr.indexAt,asIntOf,run_underlying (under_arr ok ht),Instr.sureAddr,h0,h1,sizeOf,typeInfo,hi,hs,Addr.add_eq]
theorem slOf_iff'(ok:EnvOk2 E){t c:Nat}(h:slOf E t c=true):E.ty t=.sl c/\E.ty c≠.no/\E.by' c≠0:=by
 unfold slOf at h
 cases ht:E.ty t with
 | sl e=>
  rw[ht] at h
  simp only[Bool.and_eq_true,Bool.not_eq_true'] at h
  have:=Nat.eq_of_beq_eq_true h.1
  subst this
  exact⟨rfl,fun e=>by rw[e] at h;simp[isNo] at h,fun e=>by rw[e] at h;simp at h⟩
 | _=>rw[ht] at h;simp at h
theorem slOf_iff(ok:EnvOk2 E){t c:Nat}(h:slOf E t c=true):E.ty t=.sl c/\E.ty c≠.no:=⟨(slOf_iff' ok h).1,(slOf_iff' ok h).2.1⟩
theorem Rel.own_at{tm:Array Value}(R:Rel E s N tm w ι St){m c:Nat}{l:List (U c)}(hm:s.h m=.lst c l\/s.h m=.fz c l){a':Option Addr}{L C:Nat}(h:ι m=some (.slice a' L C)) :
  L=l.length/\(l=[]\/∃ B off ds,a'=some ⟨B,off,.none⟩/\RC E w St ι (l.map (E.enc c)) ds []/\w.rangeAt B off ds/\L<=C):=by
 have h0:=R.obj m
 rcases hm with hm|hm<;>rw[hm] at h0
 ·rcases h0 with ⟨⟨a0,h1⟩,h2⟩|⟨B,off,cap,ds,h1,h2,h3,h4,h5,h6⟩
  ·rw[h] at h1
   simp only[Option.some.injEq,Value.slice.injEq] at h1
   exact⟨by rw[h2];exact h1.2.1,.inl h2⟩
  ·rw[h] at h1
   simp only[Option.some.injEq,Value.slice.injEq] at h1
   obtain⟨rfl,rfl,rfl⟩:=h1
   exact⟨rfl,.inr ⟨B,off,ds,rfl,h2,h3,h5⟩⟩
 ·obtain⟨v,h1,h2⟩:=h0
  rw[h] at h1
  simp only[Option.some.injEq] at h1
  subst h1
  cases h2 with
  | roE h=>exact⟨rfl,.inl rfl⟩
  | ro q1 q2 q3 q4 _=>exact⟨rfl,.inr ⟨_,_,_,rfl,q1,q2,q4⟩⟩
theorem op_index_own(ok:EnvOk2 E)(R:Rel E s N a.tmps w ι St)(t:TypeId)(x i:Operand)(ho:o.op=.indexAddr t x i){k:IntKind}{n:Int}(hi:s.ev E 0 i=.int k n){m c:Nat}{l:List (U c)}(hx:s.ev E t x=.own m)
  (hm:s.h m=.lst c l\/s.h m=.fz c l) (ht:slOf E t c=true) (h0:0<=n) (h1:n<(l.length:Int)):Ops E s N a w ι St b o [] (.ptr m [.elt n.toNat (E.sz c)]):=by
 have hv:=ev_ok ok R 0 i
 rw[hi] at hv
 have hv:=RV.int_inv hv
 have hw:=ev_ok ok R t x
 rw[hx] at hw
 obtain⟨a',L,C,q1,q2⟩:=RV.own_inv hw
 obtain⟨rfl,q3⟩:=R.own_at hm q2
 obtain⟨t1,t2⟩:=slOf_iff ok ht
 rcases q3 with rfl|⟨B,off,ds,rfl,q4,q5,q6⟩
 ·simp at h1;omega
 ·refine Ops.pure R (u:=.pointer (some ⟨B,off+n.toNat*E.sz c,.none⟩)) ?_ (RT.of_rv (.mk1 ?_ rfl rfl))
  ·simp[execOp,ho,hv,q1,indexAt_slice ok t1 t2 B off l.length C k n h0 h1]
  ·have:off+n.toNat*E.sz c=off+po [.elt n.toNat (E.sz c)]:=by simp[po]
   rw[this]
   exact .ptr q2 (base_pos (by omega)) ⟨by simp only[lenV'];omega,trivial⟩ .nil
theorem op_index_ro(ok:EnvOk2 E)(R:Rel E s N a.tmps w ι St)(t:TypeId)(x i:Operand)(ho:o.op=.indexAddr t x i){k:IntKind}{n:Int}(hi:s.ev E 0 i=.int k n){g:Bool}{c:Nat}{l:List (U c)}
  (hx:s.ev E t x=.ro g c l\/s.ev E t x=.clip g c l) (ht:slOf E t c=true) (h0:0<=n) (h1:n<(l.length:Int)):Ops E s N a w ι St b o [] (.rp g c l n.toNat []):=by
 have hv:=ev_ok ok R 0 i
 rw[hi] at hv
 have hv:=RV.int_inv hv
 have hw:=ev_ok ok R t x
 obtain⟨t1,t2⟩:=slOf_iff ok ht
 have key:∃ a' cap,a.eval x=.slice a' l.length cap/\(l=[]\/∃ ds B off,a'=some ⟨B,off,.none⟩/\RC E w St ι (l.map (E.enc c)) ds []/\w.rangeAt B off ds/\St (.on g) B):=by
  rcases hx with hx|hx<;>rw[hx] at hw
  ·obtain⟨a',cap,q1,q2⟩:=RV.ro_inv hw
   exact⟨a',cap,q1,q2.imp id fun ⟨ds,B,off,h1,h2,h3,h4,h5⟩=>⟨ds,B,off,h1,h2,h3,h4⟩⟩
  ·obtain⟨a',q1,q2⟩:=RV.clip_inv hw
   exact⟨a',_,q1,q2⟩
 obtain⟨a',cap,q1,q2⟩:=key
 rcases q2 with rfl|⟨ds,B,off,rfl,q3,q4,q5⟩
 ·simp at h1;omega
 ·refine Ops.pure R (u:=.pointer (some ⟨B,off+n.toNat*E.sz c,.none⟩)) ?_ (RT.of_rv (.mk1 ?_ rfl rfl))
  ·simp[execOp,ho,hv,q1,indexAt_slice ok t1 t2 B off l.length cap k n h0 h1]
  ·have:off+n.toNat*E.sz c=off+(n.toNat*E.sz c+po []):=by simp[po]
   rw[this]
   exact .rp q3 q4 q5 (by omega) trivial .nil
theorem op_index_sub(ok:EnvOk2 E)(R:Rel E s N a.tmps w ι St)(t:TypeId)(x i:Operand)(ho:o.op=.indexAddr t x i){k:IntKind}{n:Int}(hi:s.ev E 0 i=.int k n){m c j len:Nat}{l:List (U c)}
  (hx:s.ev E t x=.sub m c j len) (hm:s.h m=.lst c l\/s.h m=.fz c l) (ht:slOf E t c=true) (h0:0<=n) (h1:n<(len:Int)):Ops E s N a w ι St b o [] (.ptr m [.elt (j+n.toNat) (E.sz c)]):=by
 have hv:=ev_ok ok R 0 i
 rw[hi] at hv
 have hv:=RV.int_inv hv
 have hw:=ev_ok ok R t x
 rw[hx] at hw
 obtain⟨a0,a1,L,C,cap,r1,r2,r3,r4,r5,r6⟩:=RV.sub_inv hw
 obtain⟨rfl,q3⟩:=R.own_at hm r1
 obtain⟨t1,t2⟩:=slOf_iff ok ht
 rcases q3 with rfl|⟨B,off,ds,rfl,q4,q5,q6⟩
 ·simp at r2;omega
 ·have hc:cap≠0:=by omega
  have ha:=r5.resolve_left hc
  simp only[Option.map_some,Addr.add_eq] at ha
  subst ha
  refine Ops.pure R (u:=.pointer (some ⟨B,off+j*E.sz c+n.toNat*E.sz c,.none⟩)) ?_ (RT.of_rv (.mk1 ?_ rfl rfl))
  ·simp[execOp,ho,hv,r6,indexAt_slice ok t1 t2 B (off+j*E.sz c) len cap k n h0 h1]
  ·have:off+j*E.sz c+n.toNat*E.sz c=off+po [.elt (j+n.toNat) (E.sz c)]:=by simp[po,Nat.add_mul];omega
   rw[this]
   exact .ptr r1 (base_pos (by omega)) ⟨by simp only[lenV'];omega,trivial⟩ .nil
theorem op_index_bsl(ok:EnvOk2 E)(R:Rel E s N a.tmps w ι St)(t:TypeId)(x i:Operand)(ho:o.op=.indexAddr t x i){k:IntKind}{n:Int}(hi:s.ev E 0 i=.int k n){m c M j len:Nat}{p:List Step}
  (hx:s.ev E t x=.bsl m p c M j len) (ht:slOf E t c=true) (h0:0<=n) (h1:n<(len:Int)):Ops E s N a w ι St b o [] (.ptr m (p++[.idx (j+n.toNat) (E.sz c) M])):=by
 have hv:=ev_ok ok R 0 i
 rw[hi] at hv
 have hv:=RV.int_inv hv
 have hw:=ev_ok ok R t x
 rw[hx] at hw
 obtain⟨B,a1,cap,r1,r2,r3,r4,r5,r6,r7⟩:=RV.bsl_inv hw
 obtain⟨t1,t2⟩:=slOf_iff ok ht
 have ha:=r5.resolve_left (by omega)
 subst ha
 refine Ops.pure R (u:=.pointer (some ⟨B,po p+j*E.sz c+n.toNat*E.sz c,.none⟩)) ?_ (RT.of_rv (.mk1 ?_ rfl rfl))
 ·simp[execOp,ho,hv,r7,indexAt_slice ok t1 t2 B _ len cap k n h0 h1]
 ·have:po p+j*E.sz c+n.toNat*E.sz c=0+po (p++[.idx (j+n.toNat) (E.sz c) M]):=by simp[po,po_append,Nat.add_mul];omega
  rw[this]
  exact .ptr r1 rfl ((vp_append _ _ _).2 ⟨vp_zero r6,by omega,trivial⟩) .nil
theorem op_index_arr(ok:EnvOk2 E)(R:Rel E s N a.tmps w ι St)(t:TypeId)(x i:Operand)(ho:o.op=.indexAddr t x i){k:IntKind}{n:Int}(hi:s.ev E 0 i=.int k n){m:Nat}{p:List Step}
  (hx:s.ev E t x=.ptr m p) {L e:Nat} (ht:E.ty t=.arr L e) (hne:isNo (E.ty e)=false) (h0:0<=n) (h1:n<(L:Int)):Ops E s N a w ι St b o [] (.ptr m (p++[.idx n.toNat (E.sz e) L])):=by
 have hv:=ev_ok ok R 0 i
 rw[hi] at hv
 have hv:=RV.int_inv hv
 have hw:=ev_ok ok R t x
 rw[hx] at hw
 obtain⟨u,B,off,r1,r2,r3,r4⟩:=RV.ptr_inv hw
 refine Ops.pure R (u:=.pointer (some ⟨B,off+po p+n.toNat*E.sz e,.none⟩)) ?_ (RT.of_rv (.mk1 ?_ rfl rfl))
 ·simp[execOp,ho,hv,r4,indexAt_arr ok ht (fun e=>by rw[e] at hne;simp[isNo] at hne) B _ k n h0 h1]
 ·have:off+po p+n.toNat*E.sz e=off+po (p++[.idx n.toNat (E.sz e) L]):=by simp[po,po_append];omega
  rw[this]
  exact .ptr r1 r2 ((vp_append _ _ _).2 ⟨r3,by omega,trivial⟩) .nil
theorem op_index_rparr(ok:EnvOk2 E)(R:Rel E s N a.tmps w ι St)(t:TypeId)(x i:Operand)(ho:o.op=.indexAddr t x i){k:IntKind}{n:Int}(hi:s.ev E 0 i=.int k n){g:Bool}{c j:Nat}{l:List (U c)}{p:List Step}
  (hx:s.ev E t x=.rp g c l j p) {L e:Nat} (ht:E.ty t=.arr L e) (hne:isNo (E.ty e)=false) (h0:0<=n) (h1:n<(L:Int)):Ops E s N a w ι St b o [] (.rp g c l j (p++[.idx n.toNat (E.sz e) L])):=by
 have hv:=ev_ok ok R 0 i
 rw[hi] at hv
 have hv:=RV.int_inv hv
 have hw:=ev_ok ok R t x
 rw[hx] at hw
 obtain⟨ds,B,off,r1,r2,r3,r4,r5,r6⟩:=RV.rp_inv hw
 refine Ops.pure R (u:=.pointer (some ⟨B,off+(j*E.sz c+po p)+n.toNat*E.sz e,.none⟩)) ?_ (RT.of_rv (.mk1 ?_ rfl rfl))
 ·simp[execOp,ho,hv,r6,indexAt_arr ok ht (fun e=>by rw[e] at hne;simp[isNo] at hne) B _ k n h0 h1]
 ·have:off+(j*E.sz c+po p)+n.toNat*E.sz e=off+(j*E.sz c+po (p++[.idx n.toNat (E.sz e) L])):=by simp[po,po_append];omega
  rw[this]
  exact .rp r1 r2 r3 r4 ((vp_append _ _ _).2 ⟨r5,by omega,trivial⟩) .nil
theorem part_run(ok:EnvOk2 E){t:TypeId}{v:A U}{cs:Array Value}{off:Nat}(hf:fits E t v=true)(h:RC E w St ι [v] ((cs.toList.drop off).take (size E.sz v)) []) :
  ∃ x,(part t cs off).run E.P w=.ok x w/\RV E w St ι v x:=by
 obtain⟨h1,h2,h3,h4⟩:=fits_iff hf
 obtain⟨i,hi,hs,-⟩:=ok.info t h4
 obtain⟨d,hd,hrow⟩:=ok.agg t h4
 have hl:=h.length ok.toEnvOk
 simp only[sizes,Nat.add_zero] at hl
 cases ha:isAgg v with
 | true=>
  have hagg:(Go.isAgg t).run E.P w=.ok true w:=by
   unfold Go.isAgg
   rw[Sem.run_bind,run_underlying hd w]
   rw[<-h3,ha] at hrow
   cases d<;>simp_all
  refine⟨.agg (cs.extract off (off+E.sz t)),?_,?_,by rw[ha];rfl⟩
  ·simp[part,hagg,sizeOf,typeInfo,hi,hs]
  ·show RC E w St ι [v] (cs.extract off (off+E.sz t)).toList []
   rw[Array.toList_extract,List.extract_eq_take_drop,<-h2,Nat.add_sub_cancel_left]
   exact h
 | false=>
  have hs1:size E.sz v=1:=by cases v<;>first|rfl|simp[isAgg] at ha
  rw[hs1] at hl h
  have hagg:(Go.isAgg t).run E.P w=.ok false w:=by
   unfold Go.isAgg
   rw[Sem.run_bind,run_underlying hd w]
   rw[<-h3,ha] at hrow
   cases d<;>simp_all
  have hx:∃ x,cs[off]?=some x/\(cs.toList.drop off).take 1=[x]:=by
   cases hc:cs.toList.drop off with
   | nil=>rw[hc] at hl;simp at hl
   | cons x r=>
    refine⟨x,?_,by simp⟩
    have:=congrArg (·[0]?) hc
    simp only[List.getElem?_drop,Nat.add_zero,List.getElem?_cons_zero] at this
    simpa using this
  obtain⟨x,hx1,hx2⟩:=hx
  rw[hx2] at h
  have hx3:=oneCell_agg (h.oneCell x (by simp))
  exact⟨x,by simp[part,hagg,hx1],.mk1 h ha hx3⟩
theorem op_field(ok:EnvOk2 E)(R:Rel E s N a.tmps w ι St)(t:TypeId)(x:Operand)(k:Nat)(ho:o.op=.field t x k){l:List (A U)}(hx:s.ev E 0 x=.agg l){fs:List (TypeId×Nat)}{f:TypeId×Nat}
  (ht:E.ty t=.st fs) (hk:fieldAt fs k=some f) (hz:(Nat.beq (sizes E.sz (l.take k)) f.2&&fits E f.1 (nth l k))=true):Ops E s N a w ι St b o [] (nth l k):=by
 have h:=ev_ok ok R 0 x
 rw[hx] at h
 obtain⟨cs,h1,h2⟩:=RV.agg_inv h
 simp only[Bool.and_eq_true] at hz
 have hoff:=Nat.eq_of_beq_eq_true hz.1
 have hkl:k<l.length:=by
  rcases Nat.lt_or_ge k l.length with h|h
  ·exact h
  ·have:=(fits_iff hz.2).1;rw[known_nth h] at this;simp[known] at this
 obtain⟨q1,-⟩:=h2.part ok.toEnvOk hkl
 rw[hoff] at q1
 obtain⟨y,r1,r2⟩:=part_run ok hz.2 q1
 obtain⟨fields,f1,f2⟩:=under_st ok ht
 obtain⟨g,f3,rfl⟩:=field_of f2 hk
 exact Ops.pure R (u:=y) (by simp[execOp,ho,h1,Instr.field,run_underlying f1,f3,asAgg,r1]) (RT.of_rv r2)
theorem op_index_val(ok:EnvOk2 E)(R:Rel E s N a.tmps w ι St)(t:TypeId)(x i:Operand)(ho:o.op=.index t x i){k:IntKind}{n:Int}(hi:s.ev E 0 i=.int k n){c M:Nat}{l:List (U c)}
  (hx:s.ev E t x=.arr c M l) (ht:E.ty t=.arr M c) (hf:fits E c (E.enc c (l.getD n.toNat (E.dflt c)))=true) (h0:0<=n) (h1:n<(M:Int)):Ops E s N a w ι St b o [] (E.enc c (l.getD n.toNat (E.dflt c))):=by
 have hv:=ev_ok ok R 0 i
 rw[hi] at hv
 have hv:=RV.int_inv hv
 have h:=ev_ok ok R t x
 rw[hx] at h
 obtain⟨cs,q1,q2,q3⟩:=RV.arr_inv h
 obtain⟨r1,-⟩:=q3.elem ok.toEnvOk (i:=n.toNat) (by omega)
 have hsz:=ok.encSize c (l.getD n.toNat (E.dflt c))
 rw[<-hsz] at r1
 obtain⟨y,p1,p2⟩:=part_run ok hf r1
 obtain⟨j,hj,hs,-⟩:=ok.info c (fits_iff hf).2.2.2
 rw[hsz] at p1
 exact Ops.pure R (u:=y) (by simp[execOp,ho,hv,q1,Instr.index,asIntOf,run_underlying (under_arr ok ht),h0,h1,sizeOf,typeInfo,hj,hs,p1]) (RT.of_rv p2)
theorem op_index_str(ok:EnvOk2 E)(R:Rel E s N a.tmps w ι St)(t:TypeId)(x i:Operand)(ho:o.op=.index t x i){k:IntKind}{n:Int}(hi:s.ev E 0 i=.int k n){g:ByteArray}
  (hx:s.ev E t x=.str g) (ht:E.ty t=.str) (h0:0<=n) (h1:n<(g.size:Int)):Ops E s N a w ι St b o [] (.int .u8 (bt g n.toNat)):=by
 have hv:=ev_ok ok R 0 i
 rw[hi] at hv
 have hv:=RV.int_inv hv
 have h:=ev_ok ok R t x
 rw[hx] at h
 have h:=RV.str_inv h
 have hu:E.P.underlying t=some .string:=by have:=ok.under t;rw[ht] at this;exact this
 have hlt:n.toNat<g.data.size:=by have:g.size=g.data.size:=rfl;omega
 have hg:g[n.toNat]?=some g.data[n.toNat]:=by
  show g.data[n.toNat]?=_
  simp
 refine Ops.pure R (u:=.int .u8 (bt g n.toNat)) ?_ (RT.of_rv (.mk1 (.int .nil) rfl rfl))
 simp[execOp,ho,hv,h,Instr.index,asIntOf,run_underlying hu,h0,hg,bt,Array.getElem?_eq_getElem hlt]
end
end Go.V

set_option linter.unusedVariables false
set_option linter.unusedSimpArgs false
namespace Go.V
variable {U:Nat->Type}
section
variable {E:Env U} {w:World} {St:Ck U->Nat->Prop} {ι:Nat->Option Value} {s:S U} {N:Nat} {a:Act} {b:Nat} {o:Oper}
theorem op_shift(ok:EnvOk2 E)(R:Rel E s N a.tmps w ι St)(op:BinOp)(t ty:TypeId)(x y:Operand)(ho:o.op=.binOp op t x y ty){k k':IntKind}{n m:Int}(hx:s.ev E t x=.int k n)(hy:s.ev E ty y=.int k' m)(h0:0<=m)
  {v:A U} (hop:op=.shl/\v=.int k (ishl k n m)\/op=.shr/\v=.int k (ishr k n m)):Ops E s N a w ι St b o [] v:=by
 have h1:=ev_ok ok R t x
 have h2:=ev_ok ok R ty y
 rw[hx] at h1;rw[hy] at h2
 have h1:=RV.int_inv h1
 have h2:=RV.int_inv h2
 have hn:¬m<0:=by omega
 rcases hop with ⟨rfl,rfl⟩|⟨rfl,rfl⟩
 ·exact Ops.pure R (u:=.int k (ishl k n m)) (by simp[execOp,ho,h1,h2,eqGuard,binOp,Op.shift,hn,ishl]) (RT.of_rv (.mk1 (.int .nil) rfl rfl))
 ·exact Ops.pure R (u:=.int k (ishr k n m)) (by simp[execOp,ho,h1,h2,eqGuard,binOp,Op.shift,hn,ishr]) (RT.of_rv (.mk1 (.int .nil) rfl rfl))
theorem op_int(ok:EnvOk2 E)(R:Rel E s N a.tmps w ι St)(op:BinOp)(t ty:TypeId)(x y:Operand)(ho:o.op=.binOp op t x y ty){k:IntKind}{n m:Int}(hx:s.ev E t x=.int k n)(hy:s.ev E ty y=.int k m)
  {q:Option Prop} {v:A U} (hop:intOp op k n m=some (q,v)) (hq:∀ p,q=some p->p):Ops E s N a w ι St b o [] v:=by
 have h1:=ev_ok ok R t x
 have h2:=ev_ok ok R ty y
 rw[hx] at h1;rw[hy] at h2
 have h1:=RV.int_inv h1
 have h2:=RV.int_inv h2
 have hz:(n==m)=decide (n=m):=by by_cases h:n=m<;>simp[h]
 have hz2:(n != m)=!decide (n=m):=by by_cases h:n=m<;>simp[h]
 cases op<;>simp only[intOp,Option.some.injEq,Prod.mk.injEq,reduceCtorEq] at hop
 all_goals obtain⟨rfl,rfl⟩:=hop
 case quo=>exact Ops.pure R (u:=.int k (k.wrap (n.tdiv m))) (by simp[execOp,ho,h1,h2,eqGuard,binOp,Op.intDiv,hq _ rfl]) (RT.of_rv (.mk1 (.int .nil) rfl rfl))
 case rem=>exact Ops.pure R (u:=.int k (n.tmod m)) (by simp[execOp,ho,h1,h2,eqGuard,binOp,Op.intDiv,hq _ rfl]) (RT.of_rv (.mk1 (.int .nil) rfl rfl))
 case add=>exact Ops.pure R (u:=.int k (k.wrap (n+m))) (by simp[execOp,ho,h1,h2,eqGuard,binOp,Op.intArith]) (RT.of_rv (.mk1 (.int .nil) rfl rfl))
 case sub=>exact Ops.pure R (u:=.int k (k.wrap (n-m))) (by simp[execOp,ho,h1,h2,eqGuard,binOp,Op.intArith]) (RT.of_rv (.mk1 (.int .nil) rfl rfl))
 case mul=>exact Ops.pure R (u:=.int k (k.wrap (n*m))) (by simp[execOp,ho,h1,h2,eqGuard,binOp,Op.intArith]) (RT.of_rv (.mk1 (.int .nil) rfl rfl))
 case and=>exact Ops.pure R (u:=.int k (iand k n m)) (by simp[execOp,ho,h1,h2,eqGuard,binOp,Op.intBits,iand]) (RT.of_rv (.mk1 (.int .nil) rfl rfl))
 case or=>exact Ops.pure R (u:=.int k (ior k n m)) (by simp[execOp,ho,h1,h2,eqGuard,binOp,Op.intBits,ior]) (RT.of_rv (.mk1 (.int .nil) rfl rfl))
 case xor=>exact Ops.pure R (u:=.int k (ixor k n m)) (by simp[execOp,ho,h1,h2,eqGuard,binOp,Op.intBits,ixor]) (RT.of_rv (.mk1 (.int .nil) rfl rfl))
 case andNot=>exact Ops.pure R (u:=.int k (iandn k n m)) (by simp[execOp,ho,h1,h2,eqGuard,binOp,Op.intBits,iandn]) (RT.of_rv (.mk1 (.int .nil) rfl rfl))
 case eql=>exact Ops.pure R (u:=.bool (decide (n=m))) (by simp[execOp,ho,h1,h2,eqGuard,binOp,Op.intCmp,hz]) (RT.of_rv (.mk1 (.bool .nil) rfl rfl))
 case neq=>exact Ops.pure R (u:=.bool (!decide (n=m))) (by simp[execOp,ho,h1,h2,eqGuard,binOp,Op.intCmp,hz2]) (RT.of_rv (.mk1 (.bool .nil) rfl rfl))
 case lss=>exact Ops.pure R (u:=.bool (decide (n<m))) (by simp[execOp,ho,h1,h2,eqGuard,binOp,Op.intCmp]) (RT.of_rv (.mk1 (.bool .nil) rfl rfl))
 case leq=>exact Ops.pure R (u:=.bool (decide (n<=m))) (by simp[execOp,ho,h1,h2,eqGuard,binOp,Op.intCmp]) (RT.of_rv (.mk1 (.bool .nil) rfl rfl))
 case gtr=>exact Ops.pure R (u:=.bool (decide (m<n))) (by simp[execOp,ho,h1,h2,eqGuard,binOp,Op.intCmp]) (RT.of_rv (.mk1 (.bool .nil) rfl rfl))
 case geq=>exact Ops.pure R (u:=.bool (decide (m<=n))) (by simp[execOp,ho,h1,h2,eqGuard,binOp,Op.intCmp]) (RT.of_rv (.mk1 (.bool .nil) rfl rfl))
theorem toList_eq_iff(x y:ByteArray):(x.toList==y.toList)=seq x y:=by
 unfold seq
 by_cases h:x=y
 ·subst h;simp
 ·simp only[h,decide_false]
  cases hb:x.toList==y.toList
  ·rfl
  ·exfalso
   apply h
   have:=eq_of_beq hb
   simp only[ByteArray.toList_eq] at this
   cases x;cases y
   simp_all
theorem op_str(ok:EnvOk2 E)(R:Rel E s N a.tmps w ι St)(op:BinOp)(t ty:TypeId)(x y:Operand)(ho:o.op=.binOp op t x y ty){n m:ByteArray}(hx:s.ev E t x=.str n)(hy:s.ev E ty y=.str m)
  {q:Option Prop} {v:A U} (hop:strOp op n m=some (q,v)) (hq:∀ p,q=some p->p):Ops E s N a w ι St b o [] v:=by
 have h1:=ev_ok ok R t x
 have h2:=ev_ok ok R ty y
 rw[hx] at h1;rw[hy] at h2
 have h1:=RV.str_inv h1
 have h2:=RV.str_inv h2
 have hz:=toList_eq_iff n m
 cases op<;>simp only[strOp,Option.some.injEq,Prod.mk.injEq,reduceCtorEq] at hop
 all_goals obtain⟨rfl,rfl⟩:=hop
 case add=>
  have hle:=hq _ rfl
  unfold maxStr at hle
  have h3:¬(IntKind.i64.max<(n.size:Int)+(m.size:Int)):=by
   have:IntKind.i64.max=9223372036854775807:=rfl
   rw[this];omega
  have h4:((n.size:Int)+(m.size:Int))<=9223372036854775807:=by omega
  exact Ops.pure R (u:=.string (n++m)) (by simp[execOp,ho,h1,h2,eqGuard,binOp,Op.stringOp,h3];try omega) (RT.of_rv (.mk1 (.str .nil) rfl rfl))
 case eql=>exact Ops.pure R (u:=.bool (seq n m)) (by simp[execOp,ho,h1,h2,eqGuard,binOp,Op.stringOp,hz]) (RT.of_rv (.mk1 (.bool .nil) rfl rfl))
 case neq=>exact Ops.pure R (u:=.bool (!seq n m)) (by simp[execOp,ho,h1,h2,eqGuard,binOp,Op.stringOp,hz]) (RT.of_rv (.mk1 (.bool .nil) rfl rfl))
 case lss=>exact Ops.pure R (u:=.bool (slt n m)) (by simp[execOp,ho,h1,h2,eqGuard,binOp,Op.stringOp,slt]) (RT.of_rv (.mk1 (.bool .nil) rfl rfl))
 case leq=>exact Ops.pure R (u:=.bool (slt n m||seq n m)) (by simp[execOp,ho,h1,h2,eqGuard,binOp,Op.stringOp,slt,hz]) (RT.of_rv (.mk1 (.bool .nil) rfl rfl))
 case gtr=>exact Ops.pure R (u:=.bool (!(slt n m||seq n m))) (by simp[execOp,ho,h1,h2,eqGuard,binOp,Op.stringOp,slt,hz]) (RT.of_rv (.mk1 (.bool .nil) rfl rfl))
 case geq=>exact Ops.pure R (u:=.bool (!slt n m)) (by simp[execOp,ho,h1,h2,eqGuard,binOp,Op.stringOp,slt]) (RT.of_rv (.mk1 (.bool .nil) rfl rfl))
theorem op_not(ok:EnvOk2 E)(R:Rel E s N a.tmps w ι St)(t:TypeId)(x:Operand)(ho:o.op=.unOp .not t x){q:Bool}(hx:s.ev E 0 x=.bool q):Ops E s N a w ι St b o [] (.bool (!q)):=by
 have h1:=ev_ok ok R 0 x
 rw[hx] at h1
 have h1:=RV.bool_inv h1
 exact Ops.pure R (u:=.bool (!q)) (by simp[execOp,ho,h1,Op.unary]) (RT.of_rv (.mk1 (.bool .nil) rfl rfl))
theorem op_neg(ok:EnvOk2 E)(R:Rel E s N a.tmps w ι St)(t:TypeId)(x:Operand)(ho:o.op=.unOp .neg t x){k:IntKind}{n:Int}(hx:s.ev E 0 x=.int k n):Ops E s N a w ι St b o [] (.int k (k.wrap (0-n))):=by
 have h1:=ev_ok ok R 0 x
 rw[hx] at h1
 have h1:=RV.int_inv h1
 exact Ops.pure R (u:=.int k (k.wrap (0-n))) (by simp[execOp,ho,h1,Op.unary,Op.intArith]) (RT.of_rv (.mk1 (.int .nil) rfl rfl))
theorem op_xor(ok:EnvOk2 E)(R:Rel E s N a.tmps w ι St)(t:TypeId)(x:Operand)(ho:o.op=.unOp .xor t x){k:IntKind}{n:Int}(hx:s.ev E 0 x=.int k n):Ops E s N a w ι St b o [] (.int k (ixor k (cond k.signed (-1) k.max) n)):=by
 have h1:=ev_ok ok R 0 x
 rw[hx] at h1
 have h1:=RV.int_inv h1
 exact Ops.pure R (u:=.int k (ixor k (cond k.signed (-1) k.max) n)) (by cases hs:k.signed<;>simp[execOp,ho,h1,Op.unary,Op.intBits,ixor,hs]) (RT.of_rv (.mk1 (.int .nil) rfl rfl))
theorem op_nilCheck(ok:EnvOk2 E)(R:Rel E s N a.tmps w ι St)(x:Operand)(ho:o.op=.nilCheck x)(hx:(∃ n p,s.ev E 0 x=.ptr n p)\/(∃ g c l i p,s.ev E 0 x=.rp g c l i p)\/(∃ f l,s.ev E 0 x=.clo f l)) :
  Ops E s N a w ι St b o [] (s.ev E 0 x):=by
 have h1:=ev_ok ok R 0 x
 rcases hx with ⟨n,p,hx⟩|⟨g,c,l,i,p,hx⟩|⟨f,l,hx⟩
 ·have h2:=h1
  rw[hx] at h2
  obtain⟨u,B,off,-,-,-,h3⟩:=RV.ptr_inv h2
  exact Ops.pure R (u:=a.eval x) (by simp[execOp,ho,h3]) h1
 ·have h2:=h1
  rw[hx] at h2
  obtain⟨ds,B,off,-,-,-,-,-,h3⟩:=RV.rp_inv h2
  exact Ops.pure R (u:=a.eval x) (by simp[execOp,ho,h3]) h1
 ·have h2:=h1
  rw[hx] at h2
  obtain⟨vs,h3,-,-⟩:=RV.clo_inv h2
  obtain⟨g,a',b',h4⟩:=fv_is f vs
  rw[h4] at h3
  exact Ops.pure R (u:=a.eval x) (by simp[execOp,ho,h3]) h1
theorem RVs.nth:∀ {l:List (A U)} {vs:List Value},RVs E w St ι l vs->∀ i,i<vs.length->RT E w St ι (nth l i) (vs.getD i undef)
 | [],[],h,i,hi=>by simp at hi
 | a::l,v::vs,h,0,hi=>by
  simp only[nth,List.getD_cons_zero]
  rcases h.1 with rfl|h
  ·trivial
  ·exact RT.of_rv h
 | a::l,v::vs,h,i+1,hi=>by
  simp only[V.nth,List.getD_cons_succ]
  exact RVs.nth h.2 i (by simpa using hi)
 | [],_::_,h,_,_=>h.elim
 | _::_,[],h,_,_=>h.elim
theorem RVs.len:∀ {l:List (A U)} {vs:List Value},RVs E w St ι l vs->l.length=vs.length
 | [],[],_=>rfl
 | a::l,v::vs,h=>by simp[RVs.len h.2]
 | [],_::_,h=>h.elim
 | _::_,[],h=>h.elim
theorem op_extract(ok:EnvOk2 E)(R:Rel E s N a.tmps w ι St)(x:Operand)(i:Nat)(ho:o.op=.extract x i){l:List (A U)}(hx:s.ev E 0 x=.tup l)(hi:i<l.length):Ops E s N a w ι St b o [] (nth l i):=by
 have h1:=ev_ok ok R 0 x
 rw[hx] at h1
 obtain⟨vs,h2,h3⟩:=h1
 have hl:=h3.len
 have h4:=h3.nth i (by omega)
 have hi2:i<vs.size:=by simpa using (by omega:i<vs.toList.length)
 have h5:vs[i]?=some (vs.toList.getD i undef):=by
  simp[List.getD,hi2]
 refine Ops.pure R (u:=vs.toList.getD i undef) ?_ h4
 generalize vs.toList.getD i undef=y at h5
 simp[execOp,ho,h2,Instr.extract,h5]
theorem op_conv_int(ok:EnvOk2 E)(R:Rel E s N a.tmps w ι St)(t d:TypeId)(x:Operand)(ho:o.op=.convert t d x){k k':IntKind}{n:Int}(hd:E.ty d=.int k)(hs:E.ty t≠.no)(hx:s.ev E t x=.int k' n):Ops E s N a w ι St b o [] (.int k (k.wrap n)):=by
 have h1:=ev_ok ok R t x
 rw[hx] at h1
 have h1:=RV.int_inv h1
 have hu:E.P.underlying d=some (.int k):=by have:=ok.under d;rw[hd] at this;exact this
 obtain⟨dt,hdt,-⟩:=ok.agg t hs
 refine Ops.pure R (u:=.int k (k.wrap n)) ?_ (RT.of_rv (.mk1 (.int .nil) rfl rfl))
 simp[execOp,ho,h1,convert,run_underlying hu,run_underlying hdt,Conv.intToInt]
theorem op_conv_str(ok:EnvOk2 E)(R:Rel E s N a.tmps w ι St)(t d:TypeId)(x:Operand)(ho:o.op=.convert t d x){g:ByteArray}(hd:E.ty d=.str)(hs:E.ty t≠.no)(hx:s.ev E t x=.str g):Ops E s N a w ι St b o [] (.str g):=by
 have h1:=ev_ok ok R t x
 rw[hx] at h1
 have h1:=RV.str_inv h1
 have hu:E.P.underlying d=some .string:=by have:=ok.under d;rw[hd] at this;exact this
 obtain⟨dt,hdt,-⟩:=ok.agg t hs
 refine Ops.pure R (u:=.string g) ?_ (RT.of_rv (.mk1 (.str .nil) rfl rfl))
 simp[execOp,ho,h1,convert,run_underlying hu,run_underlying hdt]
end
end Go.V

set_option linter.unusedVariables false
set_option linter.unusedSimpArgs false
namespace Go.V
variable {U:Nat->Type}
section
variable {E:Env U} {w:World} {St:Ck U->Nat->Prop} {ι:Nat->Option Value} {s:S U} {N:Nat} {a:Act} {b:Nat} {o:Oper}
theorem range_splice{B off k:Nat}{cs ds:List Value}(h:w.rangeAt B off cs)(hk:k+ds.length<=cs.length):(w.setCells B (off+k) ds).rangeAt B off (cs.take k++(ds++cs.drop (k+ds.length))):=by
 intro j v hj
 have hsome:∀ i,i<ds.length->(w.cell? ⟨B,off+k+i,.none⟩).isSome=true:=by
  intro i hi
  have:cs[k+i]?=some cs[k+i]:=List.getElem?_eq_getElem (by omega)
  have:=h _ _ this
  rw[show off+k+i=off+(k+i) by omega,this];rfl
 by_cases h1:j<k
 ·rw[List.getElem?_append_left (by simp;omega),List.getElem?_take_of_lt h1] at hj
  rw[World.cell?_setCells_out _ _ _ _ _ (fun _ _=>.inl (by simp;omega))]
  exact h j v hj
 ·rw[List.getElem?_append_right (by simp;omega),List.length_take,Nat.min_eq_left (by omega)] at hj
  by_cases h2:j-k<ds.length
  ·rw[List.getElem?_append_left h2,List.getElem?_eq_getElem h2] at hj
   have:=World.cell?_setCells_in B ds (off+k) w hsome (j-k) h2
   rw[show off+k+(j-k)=off+j by omega] at this
   rw[this];exact hj
  ·rw[List.getElem?_append_right (by omega),List.getElem?_drop] at hj
   rw[World.cell?_setCells_out _ _ _ _ _ (fun _ _=>.inr (by simp;omega))]
   have:k+ds.length+(j-k-ds.length)=j:=by omega
   rw[this] at hj
   exact h j v hj
theorem isSome_setCell(w:World)(x y:Addr)(v:Value):((w.setCell x v).cell? y).isSome=(w.cell? y).isSome:=by
 by_cases h:x=y
 ·subst h
  cases hc:w.cell? x with
  | some u=>rw[World.cell?_setCell_same _ _ _ hc];rfl
  | none=>
   cases hd:(w.setCell x v).cell? x with
   | none=>rfl
   | some u=>
    exfalso
    simp only[World.setCell,World.cell?,Array.getElem?_modify,↓reduceIte] at hc hd
    cases hb:w.heap[x.block]? with
    | none=>rw[hb] at hd;simp at hd
    | some ob=>
     rw[hb] at hd hc
     cases ob<;>simp at hd hc
     rename_i c t f
     obtain⟨h1,h2⟩:=hd
     have h3:=hc h1
     rw[if_neg (by simp[h1]),Array.getElem?_eq_none (by simpa using h3)] at h2
     simp at h2
 ·rw[World.cell?_setCell_other _ _ _ _ h]
theorem isSome_setCells(B:Nat):∀ (vs:List Value) (o:Nat) (w:World) (y:Addr),((w.setCells B o vs).cell? y).isSome=(w.cell? y).isSome
 | [],_,_,_=>rfl
 | v::r,o,w,y=>by rw[World.setCells,isSome_setCells B r,isSome_setCell]
theorem there_setCells{B B' off o n:Nat}{ds:List Value}(h:w.there B off n):(w.setCells B' o ds).there B off n:=fun j hj=>
 ⟨by rw[isSome_setCells];exact (h j hj).1,by rw[World.frozen?_setCells];exact (h j hj).2⟩
theorem thereA_setCells{q:Prop}{B B' off o n:Nat}{ds:List Value}(h:thereA q w B off n):thereA q (w.setCells B' o ds) B off n:=
 ⟨there_setCells h.1,fun hq j=>by rw[World.frozen?_setCells];exact h.2 hq j⟩
theorem store_run(ok:EnvOk2 E){t:TypeId}{v:A U}{x:Value}{B off k:Nat}(hf:fits E t v=true)(h:RV E w St ι v x)(hT:w.there B off k){i:Nat}(hi:i+x.cells.toList.length<=k) :
  (Instr.storeAt t (.pointer (some ⟨B,off+i,.none⟩)) x).run E.P w=.ok () (w.setCells B (off+i) x.cells.toList):=by
 obtain⟨h1,h2,h3,h4⟩:=fits_iff hf
 obtain⟨inf,hinf,hs,-⟩:=ok.info t h4
 have hl:=h.1.length ok.toEnvOk
 simp only[sizes,Nat.add_zero] at hl
 have hst:=run_storeCells_cells (P:=E.P) B (off+i) x.cells.toList 0 w
  (fun j hj=>by have:=(hT (i+j) (by omega)).1;rwa [show off+i+0+j=off+(i+j) by omega])
  (fun j hj=>by have:=(hT (i+j) (by omega)).2;rwa [show off+i+0+j=off+(i+j) by omega]) (fun v hv=>h.1.oneCell v hv)
 simp only[Nat.add_zero] at hst
 have hsz:x.cells.size=inf.size:=by rw[hs,<-h2,<-hl];simp
 simp[Instr.storeAt,Instr.sureAddr,storeVar,sizeOf,typeInfo,hinf,hsz,hst]
theorem caps_ok(ok:EnvOk2 E)(R:Rel E s N a.tmps w ι St):∀ l:List Operand,(∀ x∈l,known (s.ev E 0 x)=true)->RC E w St ι (l.map fun x=>s.ev E 0 x) ((l.map fun x=>(a.eval x).cells.toList).flatten) [] ∧
   l.map (fun x=>((a.eval x).cells.size,isAggV (a.eval x)))=l.map (fun x=>(size E.sz (s.ev E 0 x),Go.V.isAgg (s.ev E 0 x))):=by
  intro l
  induction l with
  | nil=>intro _;exact⟨.nil,rfl⟩
  | cons x l ih=>
   intro hl
   obtain⟨i1,i2⟩:=ih fun y hy=>hl y (List.mem_cons_of_mem _ hy)
   have hx:=(ev_ok ok R 0 x).rv (hl x (by simp))
   have hl:=hx.1.length ok.toEnvOk
   simp only[sizes,Nat.add_zero] at hl
   refine⟨by simpa using RC.cons hx.1 i1,?_⟩
   simp only[List.map_cons,i2,hx.2]
   rw[<-hl];simp
theorem op_makeBound(ok:EnvOk2 E)(R:Rel E s N a.tmps w ι St)(f:FuncId)(first caps:Array Operand)(ho:o.op=.makeFunc (.func f) first caps)(hb:Nat.blt f 1000000=true)(hf:caps.isEmpty=true)
  (hk:∀ x∈first.toList,known (s.ev E 0 x)=true):Ops E s N a w ι St b o [] (.clo (f+1000000) (first.toList.map fun x=>s.ev E 0 x)):=by
 have h1:caps.map a.eval = #[]:=by
  have:caps = #[]:=by simpa using hf
  subst this;simp
 obtain⟨k1,k2⟩:=caps_ok ok R first.toList hk
 refine Ops.pure R (u:=.func (.func f) (first.map a.eval) #[]) (by simp[execOp,ho,Instr.makeFunc,h1]) (RT.of_rv ?_)
 rw[<-fv_bound f hb]
 refine RV.mkclo ?_ ?_
 ·simpa[List.map_map,Function.comp_def] using k1
 ·simpa[List.map_map,Function.comp_def] using k2
theorem op_makeFunc(ok:EnvOk2 E)(R:Rel E s N a.tmps w ι St)(f:FuncId)(first caps:Array Operand)(ho:o.op=.makeFunc (.func f) first caps)(hb:Nat.blt f 1000000=true)(hf:first.isEmpty=true)
  (hk:∀ x∈caps.toList,known (s.ev E 0 x)=true):Ops E s N a w ι St b o [] (.clo f (caps.toList.map fun x=>s.ev E 0 x)):=by
 have h1:first.map a.eval = #[]:=by
  have:first = #[]:=by simpa using hf
  subst this;simp
 have key:∀ l:List Operand,(∀ x∈l,known (s.ev E 0 x)=true)->RC E w St ι (l.map fun x=>s.ev E 0 x) ((l.map fun x=>(a.eval x).cells.toList).flatten) [] ∧
   l.map (fun x=>((a.eval x).cells.size,isAggV (a.eval x)))=l.map (fun x=>(size E.sz (s.ev E 0 x),Go.V.isAgg (s.ev E 0 x))):=by
  intro l
  induction l with
  | nil=>intro _;exact⟨.nil,rfl⟩
  | cons x l ih=>
   intro hl
   obtain⟨i1,i2⟩:=ih fun y hy=>hl y (List.mem_cons_of_mem _ hy)
   have hx:=(ev_ok ok R 0 x).rv (hl x (by simp))
   have hl:=hx.1.length ok.toEnvOk
   simp only[sizes,Nat.add_zero] at hl
   refine⟨by simpa using RC.cons hx.1 i1,?_⟩
   simp only[List.map_cons,i2,hx.2]
   rw[<-hl];simp
 obtain⟨k1,k2⟩:=key caps.toList hk
 refine Ops.pure R (u:=.func (.func f) #[] (caps.map a.eval)) (by simp[execOp,ho,Instr.makeFunc,h1]) (RT.of_rv ?_)
 rw[<-fv_lt hb]
 refine RV.mkclo ?_ ?_
 ·simpa[List.map_map,Function.comp_def] using k1
 ·simpa[List.map_map,Function.comp_def] using k2
theorem fold_set(vs:List Value):∀ (k i:Nat) (cs:Array Value),k+i+vs.length<=cs.size →
  ((vs.zipIdx i).foldl (fun (cs:Array Value) (x:Value×Nat)=>cs.setIfInBounds (k+x.2) x.1) cs).toList=cs.toList.take (k+i)++(vs++cs.toList.drop (k+i+vs.length)):=by
 induction vs with
 | nil=>intro k i cs h;simp
 | cons v vs ih=>
  intro k i cs h
  simp only[List.zipIdx_cons,List.foldl_cons]
  rw[ih k (i+1) _ (by simp at h ⊢;omega)]
  simp only[List.length_cons] at h
  have hlt:k+i<cs.toList.length:=by simp;omega
  simp only[Array.toList_setIfInBounds,List.length_cons]
  rw[set_cut _ _ _ hlt,show k+(i+1)=k+i+1 by omega,List.take_append,List.take_of_length_le (by simp;omega),List.length_take,Nat.min_eq_left (by omega)]
  rw[show k+i+1-(k+i)=1 by omega,List.take_succ_cons,List.take_zero,List.append_assoc]
  simp only[List.cons_append,List.nil_append]
  congr 2
  rw[List.drop_append,List.drop_of_length_le (by simp;omega),List.nil_append,List.length_take,Nat.min_eq_left (by omega)]
  rw[show k+i+1+vs.length-(k+i)=vs.length+1 by omega,List.drop_succ_cons,List.drop_drop]
  congr 2
  omega
theorem fill_step{place:Nat->Option (Nat×Nat)}{cs:Array Value}{i off size:Nat}{v:Value}{rest:List (Nat×Value)}(hp:place i=some (off,size))(hs:v.cells.size=size)(hl:off+size<=cs.size) :
  ∃ cs':Array Value,Instr.fill place cs ((i,v)::rest)=Instr.fill place cs' rest/\cs'.toList=cs.toList.take off++(v.cells.toList++cs.toList.drop (off+v.cells.toList.length)):=by
 refine⟨v.cells.zipIdx.foldl (fun cs (c,j)=>cs.setIfInBounds (off+j) c) cs,?_,?_⟩
 ·have h1:¬(cs.size<off+v.cells.size):=by omega
  simp only[Instr.fill,hp]
  rw[if_neg]
  simp[hs];omega
 ·have:=fold_set v.cells.toList off 0 cs (by simp;omega)
  simp only[Nat.add_zero] at this
  rw[<-this,<-Array.foldl_toList]
  simp
theorem fill_parts(ok:EnvOk2 E)(place:Nat->Option (Nat×Nat)):∀ (ps:List (Nat×A U)) (vs:List (Nat×Value)) (l l':List (A U)) (cs:Array Value),RC E w St ι l cs.toList [] →
  setParts E l ps=some l'->ps.length=vs.length->(∀ (i k:Nat) (x:A U) (k':Nat) (v:Value),ps[i]?=some (k,x)->vs[i]?=some (k',v)->k'=k/\RT E w St ι x v) →
  (∀ k,k<l.length->place k=some (sizes E.sz (l.take k),size E.sz (nth l k))) →
  ∃ cs':Array Value,Instr.fill place cs vs=some cs'/\RC E w St ι l' cs'.toList []/\cs'.size=cs.size
 | [],vs,l,l',cs,h,hs,hlen,_,_=>by
  have:vs=[]:=by cases vs with|nil=>rfl|cons _ _=>simp at hlen
  subst this
  simp only[setParts,Option.some.injEq] at hs
  subst hs
  exact⟨cs,rfl,h,rfl⟩
 | (k,x)::ps,[],l,l',cs,h,hs,hlen,_,_=>by simp at hlen
 | (k,x)::ps,(k',v)::vs,l,l',cs,h,hs,hlen,hv,hp=>by
  simp only[setParts] at hs
  cases hb:(Nat.blt k l.length&&(Nat.beq (size E.sz (nth l k)) (size E.sz x)&&(known x&&(Go.V.isAgg (nth l k)==Go.V.isAgg x)))) with
  | false=>rw[hb] at hs;simp at hs
  | true=>
   rw[hb] at hs
   simp only[cond_true] at hs
   simp only[Bool.and_eq_true] at hb
   obtain⟨b1,b2,b3,b4⟩:=hb
   have hk:k<l.length:=Nat.le_of_ble_eq_true b1
   have hsz:=Nat.eq_of_beq_eq_true b2
   obtain⟨rfl,hx⟩:=hv 0 k x k' v rfl rfl
   have hx:=hx.rv b3
   obtain⟨c1,c2,c3,e,h1,h2,h3,h4⟩:=h.parts ok.toEnvOk hk
   have l2:=h2.length ok.toEnvOk
   have lx:=hx.1.length ok.toEnvOk
   simp only[sizes,Nat.add_zero] at l2 lx
   have hcs:cs.size=c1.length+(c2.length+c3.length):=by
    have:=congrArg List.length e
    simpa using this
   have hvs:v.cells.size=size E.sz (nth l k'):=by rw[hsz,<-lx];simp
   obtain⟨cs1,f1,f2⟩:=fill_step (rest:=vs) (cs:=cs) (v:=v) (hp k' hk) hvs (by omega)
   have hx1:RC E w St ι (l.set k' x) cs1.toList []:=by
    rw[f2,e,<-h4]
    have hcl:v.cells.toList.length=c2.length:=by rw[lx,l2,hsz]
    have t1:(c1++(c2++c3)).take c1.length=c1:=by simp
    have t2:(c1++(c2++c3)).drop (c1.length+v.cells.toList.length)=c3:=by
     rw[drop_mid (n:=c1.length) rfl (by omega),hcl];simp
    rw[t1,t2,set_cut _ _ _ hk]
    have:=RC.append h1 (RC.cons hx.1 h3)
    simpa using this
   have hsize1:cs1.size=cs.size:=by
    have h6:=congrArg List.length f2
    simp only[List.length_append,List.length_take,List.length_drop,Array.length_toList] at h6
    have hcl:v.cells.toList.length=c2.length:=by rw[lx,l2,hsz]
    simp only[Array.length_toList] at hcl
    omega
   have hset:∀ m,m<(l.set k' x).length->place m=some (sizes E.sz ((l.set k' x).take m),size E.sz (nth (l.set k' x) m)):=by
    intro m hm
    have hm':m<l.length:=by simpa using hm
    rw[hp m hm']
    congr 2
    ·by_cases hmk:m<=k'
     ·rw[List.take_set_of_le hmk]
     ·have e1:l.take m=l.take k'++nth l k'::(l.drop (k'+1)).take (m-(k'+1)):=by
       have:l=l.take k'++nth l k'::l.drop (k'+1):=by rw[nth_eq,List.getD,List.getElem?_eq_getElem hk];simp
       conv=>lhs;rw[this]
       rw[List.take_append,List.take_of_length_le (by simp;omega),List.length_take,Nat.min_eq_left (by omega),show m-k'=(m-(k'+1))+1 by omega,List.take_succ_cons]
      have e2:(l.set k' x).take m=l.take k'++x::(l.drop (k'+1)).take (m-(k'+1)):=by
       rw[set_cut _ _ _ hk,List.take_append,List.take_of_length_le (by simp;omega),List.length_take,Nat.min_eq_left (by omega),show m-k'=(m-(k'+1))+1 by omega,List.take_succ_cons]
      rw[e1,e2]
      simp only[sizes_append,sizes,hsz]
    ·by_cases hmk:m=k'
     ·subst hmk;rw[hsz,nth_eq (l.set m x),List.getD,List.getElem?_set_self hk];rfl
     ·rw[nth_eq,nth_eq,List.getD,List.getD,List.getElem?_set_ne (Ne.symm hmk)]
   obtain⟨cs',g1,g2,g3⟩:=fill_parts ok place ps vs (l.set k' x) l' cs1 hx1 hs (by simpa using hlen) (fun i k x k' v h1 h2=>hv (i+1) k x k' v (by simpa using h1) (by simpa using h2)) hset
   exact⟨cs',by rw[f1];exact g1,g2,by omega⟩
end
end Go.V
