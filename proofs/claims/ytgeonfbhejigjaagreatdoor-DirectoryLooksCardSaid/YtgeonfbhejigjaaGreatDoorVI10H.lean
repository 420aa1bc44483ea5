import Derived.Test.YtgeonfbhejigjaaGreatDoorVI10D
import Derived.Test.YtgeonfbhejigjaaGreatDoorVJ08
set_option linter.unusedVariables false
set_option linter.unusedSimpArgs false
set_option maxRecDepth 100000
set_option maxHeartbeats 1600000
namespace Go.V
open Go Go.Proofs Go.Proofs.OnceV
theorem PGlobCl(g:Nat):PE.glob g=.none\/closed (PE.glob g)=true:=by
 show PGlob g=.none\/closed (PGlob g)=true
 unfold PGlob
 split
 all_goals first|exact .inr rfl|exact .inl rfl
section
variable {w W W':World} {St St':Ck PU->Nat->Prop} {pv:Value} {w0:Int}
theorem three_fr(T:Three w W pv w0)(O:Nat->Prop):Fr O w W:=⟨by rw[T.size];omega,fun b hb _=>T.same b hb,T.out,T.os,T.tape,by rw[T.drn];exact Nat.le_refl _⟩
theorem three_sup(T:Three w W pv w0)(lt:∀ B,An St B->B<w.heap.size)(h:Sup PE w St):Sup PE W St:=
 h.ext (ι:=noNm) (ι':=noNm) ⟨fun _ _ h=>h,fun _ _ h=>h,fun b hb=>T.same b (lt b hb.an),by rw[T.size];omega⟩ h.up h.cls (fun _ _ _ h=>h) fun b hb=>T.same b (lt b hb.an)
end
def dgV(dl:List Int):Array Value:=(dl.map (Value.int .u8)).toArray
theorem dgV_list(dl:List Int):(dgV dl).toList=dl.map (Value.int .u8):=by simp[dgV]
section
variable {w W W':World} {St St':Ck PU->Nat->Prop} {ι:Nat->Option Value} {pv:Value} {w0:Int} {dl:List Int}
theorem rc_u8:∀ (l:List Int) {ds:List Value},RC PE w St ι ((l:List (PU 5)).map (PE.enc 5)) ds []->ds=l.map (Value.int .u8)
 | [],ds,h=>by cases h;rfl
 | x::l,ds,h=>by
  have h':RC PE w St ι (A.int .u8 x::(l:List (PU 5)).map (PE.enc 5)) ds []:=h
  cases h' with
  | int h=>rw[rc_u8 l h];rfl
theorem rc_of_u8:∀ (l:List Int),RC PE w St ι ((l:List (PU 5)).map (PE.enc 5)) (l.map (Value.int .u8)) []
 | []=>.nil
 | x::l=>by
  have h:RC PE w St ι (A.int .u8 x::(l:List (PU 5)).map (PE.enc 5)) (Value.int .u8 x::l.map (Value.int .u8)) []:=.int (rc_of_u8 l)
  exact h
theorem rc_dig{cs:List Value}(h:RC PE w St ι [.arr 5 32 (dl:List (PU 5))] cs []):cs=dl.map (Value.int .u8)/\dl.length=32:=by
 obtain⟨h1,h2,-⟩:=h.arr_inv
 exact⟨rc_u8 dl h2,h1⟩
theorem rc_dgV(h:dl.length=32):RC PE w St ι [.arr 5 32 (dl:List (PU 5))] (dl.map (Value.int .u8)) []:=by
 have:=RC.arr (E:=PE) (w:=w) (St:=St) (ι:=ι) (c:=5) (n:=32) (xs:=(dl:List (PU 5))) h (rc_of_u8 dl) .nil
 simpa using this
theorem fits24:fits PE 29 (.arr 5 32 (dl:List (PU 5)):A PU)=true:=by
 have h1:PE.sz 5=1:=by kernel_rfl
 have h2:PE.sz 29=32:=by kernel_rfl
 have h3:PE.ty 29=.arr 32 5:=by kernel_rfl
 simp[fits,known,size,h1,h2,h3,isAgg,rowTy,isNo]
theorem rv_dig{x:Value}(h:RV PE w St ι (.arr 5 32 (dl:List (PU 5))) x):x=.agg (dgV dl):=by
 obtain⟨h1,h2⟩:=h
 cases x with
 | agg xs=>
  have:=(rc_dig h1).1
  simp only[Value.cells] at this
  have e:xs=dgV dl:=by
   apply Array.ext'
   rw[this,dgV_list]
  rw[e]
 | _=>simp[isAggV,isAgg] at h2
theorem load24{b o:Nat}(hl:dl.length=32)(hr:w.rangeAt b o (dl.map (Value.int .u8))):(Instr.loadAt 29 (.pointer (some ⟨b,o,none⟩))).run Tryz.prog w=.ok (.agg (dgV dl)) w/\(loadVar 29 ⟨b,o,none⟩).run Tryz.prog w=.ok (.agg (dgV dl)) w:=by
 have h:=rc_dgV (w:=w) (St:=fun _ _=>False) (ι:=noNm) hl
 obtain⟨x,h1,h2⟩:=load_run PEok fits24 h hr
 obtain⟨y,h3,h4⟩:=loadVar_of PEok fits24 h hr
 rw[rv_dig h2] at h1
 rw[rv_dig h4] at h3
 exact⟨h1,h3⟩
theorem dig_var(hh:W'.heap[w.heap.size+1+1]?=some (.cells (Array.replicate 32 (.int .u8 0)) 29))(hl:dl.length=32) :
  (Instr.storeAt 29 (.pointer (some ⟨w.heap.size+1+1,0,none⟩)) (.agg (dgV dl))).run Tryz.prog W'=.ok () (W'.setCells (w.heap.size+1+1) 0 (dgV dl).toList) ∧
  (loadVar 29 ⟨w.heap.size+1+1,0,none⟩).run Tryz.prog (W'.setCells (w.heap.size+1+1) 0 (dgV dl).toList)=.ok (.agg (dgV dl)) (W'.setCells (w.heap.size+1+1) 0 (dgV dl).toList):=by
 have hlen:(dgV dl).toList.length=32:=by rw[dgV_list];simpa using hl
 have ra:W'.rangeAt (w.heap.size+1+1) 0 (List.replicate 32 (.int .u8 0)):=by
  intro j v hj
  have hj':j<32:=by have:=(List.getElem?_eq_some_iff.1 hj).1;simpa using this
  have hv:v=.int .u8 0:=by
   rw[List.getElem?_replicate] at hj
   simp[hj'] at hj
   exact hj.symm
  subst hv
  simp only[World.cell?,hh,Nat.zero_add]
  simp[hj']
 have th:W'.there (w.heap.size+1+1) 0 32:=by
  intro j hj
  simp only[World.cell?,World.frozen?,hh,Nat.zero_add]
  simp[hj]
 have h1:=store_run (w:=W') (St:=fun _ _=>False) (ι:=noNm) (t:=29) (x:=.agg (dgV dl)) (i:=0) PEok fits24 ⟨by rw[show (Value.agg (dgV dl)).cells=dgV dl from rfl,dgV_list];exact rc_dgV hl,rfl⟩ th (by show 0+(dgV dl).toList.length<=32;omega)
 refine⟨h1,?_⟩
 have r2:=range_splice (w:=W') (B:=w.heap.size+1+1) (off:=0) (k:=0) (ds:=(dgV dl).toList) ra (by rw[hlen];simp)
 have hcs:(List.replicate 32 (Value.int .u8 0)).take 0++((dgV dl).toList++(List.replicate 32 (Value.int .u8 0)).drop (0+(dgV dl).toList.length))=dl.map (Value.int .u8):=by
  rw[hlen,dgV_list];simp
 rw[hcs] at r2
 exact (load24 hl r2).2
theorem load3b{b:Nat}(h:w.cell? ⟨b,0,none⟩=some (.int .i64 w0)):(Instr.loadAt 3 (.pointer (some ⟨b,0,none⟩))).run Tryz.prog w=.ok (.int .i64 w0) w:=by
 have hf:fits PE 3 (.int .i64 w0:A PU)=true:=by
  have h2:PE.sz 3=1:=by kernel_rfl
  have h3:PE.ty 3=.int .i64:=by kernel_rfl
  simp[fits,known,size,h2,h3,isAgg,rowTy,isNo]
 obtain⟨x,h1,h2⟩:=load_run (w:=w) (St:=fun _ _=>False) (ι:=noNm) (B:=b) (off:=0) PEok hf (.int .nil) (fun j v hj=>by
  rcases j with - | j
  ·simp only[List.getElem?_cons_zero,Option.some.injEq] at hj;subst hj;exact h
  ·simp at hj)
 rw[RV.int_inv h2] at h1
 exact h1
theorem load68{b B:Nat}(h:w.cell? ⟨b,0,none⟩=some (.pointer (some ⟨B,0,none⟩))):(Instr.loadAt 206 (.pointer (some ⟨b,0,none⟩))).run Tryz.prog w=.ok (.pointer (some ⟨B,0,none⟩)) w:=by
 have hf:fits PE 206 (.ptr 2 []:A PU)=true:=by
  have h2:PE.sz 206=1:=by kernel_rfl
  have h3:PE.ty 206=.ptr 249:=by kernel_rfl
  simp[fits,known,size,h2,h3,isAgg,rowTy,isNo]
 have hc:RC PE w (fun _ _=>False) (nm3 0 0 B) [.ptr 2 []] [.pointer (some ⟨B,0+po [],none⟩)] []:=.ptr (v:=ptrTo B) rfl rfl trivial .nil
 obtain⟨x,h1,h2⟩:=load_run (B:=b) (off:=0) PEok hf hc (fun j v hj=>by
  rcases j with - | j
  ·simp only[List.getElem?_cons_zero,Option.some.injEq] at hj;subst hj;exact h
  ·simp at hj)
 obtain⟨u,B',off,g1,g2,g3,rfl⟩:=RV.ptr_inv h2
 simp only[nm3,Option.some.injEq] at g1
 subst g1
 simp only[ptrTo,base,Option.some.injEq,Prod.mk.injEq] at g2
 obtain⟨rfl,rfl⟩:=g2
 exact h1
theorem dig_fin{K:A PU->List (AObj PU)->Prop}(hk:K (.arr 5 32 (dl:List (PU 5))) [])(hl:dl.length=32)(lt:∀ b,An St b->b<w.heap.size)(fr:Fr (fun b=>w.heap.size<=b\/KnB St b) w W')(hn:w.heap.size+3<=W'.heap.size)(sup:Sup PE W' St')(mono:∀ c x B,St (.kn c x) B->St' (.kn c x) B)
  (gr:∀ g b,St' g b->St g b\/w.heap.size+3<=b) (lt':∀ b,An St' b->b<W'.heap.size):Result' PE w St K (.agg (dgV dl)) (W'.setCells (w.heap.size+1+1) 0 (dgV dl).toList) (.arr 5 32 (dl:List (PU 5))) [] St':=by
 have hno:∀ b,An St' b->b≠w.heap.size+1+1:=fun b ⟨g,h⟩ e=>by
  rcases gr g b h with h1|h1
  ·have:=lt b ⟨g,h1⟩;omega
  ·omega
 refine⟨hk,?_,⟨by rw[size_setCells];exact fr.size,fun b hb ho=>?_,by rw[(out_setCells _ _ _ _).1];exact fr.out,by rw[(out_setCells _ _ _ _).2.1];exact fr.os,by rw[(out_setCells _ _ _ _).2.2.1];exact fr.tape,by rw[(out_setCells _ _ _ _).2.2.2];exact fr.drn⟩,?_,mono,fun B hB=>(by cases hB),.nil,fun g b h=>(gr g b h).imp id fun h=>by omega,fun b h=>by rw[size_setCells];exact lt' b h⟩
 ·refine⟨?_,rfl⟩
  rw[show (Value.agg (dgV dl)).cells=dgV dl from rfl,dgV_list]
  exact rc_dgV hl
 ·rw[heap_setCells _ _ _ _ _ (by omega)]
  exact fr.same b hb fun h=>h.elim (fun h=>by omega) ho
 ·exact sup.ext (ι:=noNm) (ι':=noNm) ⟨fun _ _ h=>h,fun _ _ h=>h,fun b hb=>heap_setCells _ _ _ _ _ (hno b hb.an),by rw[size_setCells];exact Nat.le_refl _⟩ sup.up sup.cls (fun _ _ _ h=>h) fun b hb=>heap_setCells _ _ _ _ _ (hno b hb.an)
end
theorem digT_len(w:Int)(x:KT S_api_Leaf)(hw:0<=w/\w<=32):(digT w x).length=32:=by
 have h:∀ m,(shortL w.toNat m).length=32:=fun m=>(shortL_dig (by omega) m).1
 cases x with
 | nil=>exact h _
 | node g v l r=>
  simp only[digT]
  cases l.isNil&&r.isNil<;>exact h _
theorem hand170(x:KT S_api_Leaf)(w0:Int)(K:A PU->List (AObj PU)->Prop){T:Tab PU}(TS:TSound PE T)(hw:0<=w0/\w0<=32)(hG:allG w0 x)(hK:K (.arr 5 32 (digT w0 x)) [])
  (hE:∀ K':A PU->List (AObj PU)->Prop,K' (.arr 5 32 (digT w0 .nil)) []->T 132 [.int .i64 w0] [] K')
  (hC:∀ g v l r (dl:List Int) (K':A PU->List (AObj PU)->Prop),x=.node g v l r->K' (.tup []) [.box (.ptr 2 []),.box (.int .i64 w0),knotObj PE v l r (digT w0 x)] →
   T 191 [.ptr 0 [],.ptr 1 []] [.box (.ptr 2 []),.box (.int .i64 w0),knotObj PE v l r dl] K'):RowSound PE 170 [.tr 140 x [],.int .i64 w0] [] K:=by
 have hpr:memN 170 PE.procs=false:=by kernel_rfl
 refine RowSound.of_fn (by rfl) fun _=>⟨fun _ _=>⟨⟨_,Tryz.func170,by kernel_rfl,by kernel_rfl⟩,fun w St vs hvs hlt hS=>?_⟩,fun h=>by rw[hpr] at h;cases h⟩
 obtain⟨vs⟩:=vs
 obtain⟨v0,v1,rfl,hp,rfl⟩:∃ v0 v1,vs=[v0,v1]/\KP St 140 x [] v0/\v1=.int .i64 w0:=by
  cases vs with
  | nil=>exact hvs.elim
  | cons v0 vs=>
  cases vs with
  | nil=>exact hvs.2.elim
  | cons v1 vs=>
  cases vs with
  | cons _ _=>exact hvs.2.2.elim
  | nil=>
   exact⟨v0,v1,rfl,RV.tr_inv (hvs.1.resolve_left (by intro e;cases e)),RV.int_inv (hvs.2.1.resolve_left (by intro e;cases e))⟩
 have hl:=digT_len w0 x hw
 have hn2:∀ (W:World) (pv:Value),Three w W pv w0->¬An St (w.heap.size+1+1)/\w.heap.size+1+1<W.heap.size:=fun W pv T=>⟨fun h=>by have:=hlt _ h;omega,by rw[T.size];omega⟩
 cases x with
 | nil=>
  obtain rfl:v0=.pointer none:=by
   rcases hp with ⟨-,-,h⟩|⟨h,-⟩
   ·exact h
   ·cases h
  refine (dig_nil w0 w (fun ds W'=>ds=dgV (digT w0 .nil)/\∃ W St',Three w W (.pointer none) w0/\Fr (KnB St) W W'/\Sup PE W' St'/\(∀ c x B,St (.kn c x) B->St' (.kn c x) B)/\(∀ g b,St' g b->St g b\/W.heap.size<=b)/\(∀ b,An St' b->b<W'.heap.size)) fun W T=>⟨?_,?_⟩).mono ?_
  ·have hc:=T.c1
   have h3:(Instr.loadAt 3 (.pointer (some ⟨w.heap.size+1,0,none⟩))).run Tryz.prog W=.ok (.int .i64 w0) W:=load3b hc
   exact h3
  ·obtain⟨-,hF⟩:=((TS 132 _ _ _ (hE (fun r _=>r=.arr 5 32 (digT w0 .nil)) rfl)).1 (by rfl)).1 (by kernel_rfl) rfl
   refine (hF W St #[.int .i64 w0] ⟨.inr (.mk1 (.int .nil) rfl rfl),trivial⟩ (fun B hB=>by have:=hlt B hB;rw[T.size];omega) (three_sup T hlt hS)).mono ?_
   rintro e W' ⟨r,v,bs,St',rfl,q⟩
   have hr:=q.k
   subst hr
   obtain⟨q1,q2⟩:=q.val
   have hbs:bs=[]:=(q1.arr_inv).2.2
   subst hbs
   obtain rfl:=rv_dig ⟨q1,q2⟩
   obtain⟨s1,s2⟩:=hn2 W _ T
   obtain⟨k2,k3⟩:=dig_var (w:=w) (W':=W') ((q.fr.same _ s2 fun h=>s1 h.an).trans T.h2) hl
   exact⟨_,rfl,⟨k2,k3⟩,rfl,W,St',T,q.fr,q.sup,q.kn,q.gr,q.lt⟩
  ·rintro e w' ⟨ds,rfl,W',⟨rfl,W,St',T,f,g1,g2,g3,g4⟩,rfl⟩
   exact⟨_,_,[],St',rfl,dig_fin hK hl hlt (((three_fr T _).trans f).mono fun b _ h=>.inr h) (by have:=f.size;rw[T.size] at this;exact this) g1 g2 (fun g b h=>(g3 g b h).imp id fun h=>by rw[T.size] at h;exact h) g4⟩
 | node g v l r=>
  obtain rfl:w0=g:=hG.1.symm
  obtain⟨-,B,rfl,hB⟩:=hp.some rfl
  have hpo:(0+po [])=0:=rfl
  refine (dig_node B w0 w (fun ds W'=>ds=dgV (digT w0 (.node w0 v l r))/\∃ W St',Three w W (ptrTo B) w0/\Fr (fun b=>(b=w.heap.size\/b=w.heap.size+1)\/KnB St b) W W'/\Sup PE W' St'/\(∀ c x B,St (.kn c x) B->St' (.kn c x) B)/\(∀ g b,St' g b->St g b\/W.heap.size<=b)/\(∀ b,An St' b->b<W'.heap.size)) fun W T=>?_).mono ?_
  ·have SW:=three_sup T hlt hS
   have ltW:∀ b,An St b->b<W.heap.size:=fun b h=>by have:=hlt b h;rw[T.size];omega
   obtain⟨s1,s2⟩:=hn2 W _ T
   obtain⟨hc,K0⟩:=SW.kn _ _ _ hB
   obtain⟨ms,ls,pl,pr,K0⟩:=K0
   have hBW:=ltW B ⟨_,hB⟩
   obtain⟨os,ds0,hms,hos⟩:=K0.memo
   have hsz5:PE.sz 5=1:=by kernel_rfl
   rcases hos with ⟨rfl,dl,rdl⟩|⟨rfl,rdl⟩
   ·
    obtain⟨t0,e0⟩:=T.h0
    obtain⟨t1,e1⟩:=T.h1
    have a0:¬An St w.heap.size:=fun h=>by have:=hlt _ h;omega
    have a1:¬An St (w.heap.size+1):=fun h=>by have:=hlt _ h;omega
    have HR:=once_heap PEok PGlobCl SW ltW hB K0 hms rdl e0 e1 a0 a1 (by omega)
    have hrow:=((TS 191 _ _ _ (hC w0 v l r dl (fun q9 objs=>q9=.tup []/\objs=[.box (.ptr 2 []),.box (.int .i64 w0),knotObj PE v l r (digT w0 (.node w0 v l r))]) rfl ⟨rfl,rfl⟩)).1 (by rfl)).2 (by kernel_rfl)
    obtain⟨-,hrun⟩:=hrow
    have hlz:3+PE.kn.dn*PE.sz PE.kn.dc=size PE.sz PE.kn.mz:=by kernel_rfl
    have hcs:W.rangeAt B 0 (([Value.int .u32 0,.int .i32 0,.int .u32 0]++ds0)++(ls++[pl,pr])):=by
     have:=K0.at_;rw[hms] at this;exact this
    have hth:=K0.there
    rw[hms] at hth
    have hcall:=hrun (W.setCell ⟨B,1,none⟩ (.int .i32 1)) (smallK St (ktSize (.node w0 v l r))) (nm3 w.heap.size (w.heap.size+1) B) #[ptrTo w.heap.size,ptrTo (w.heap.size+1)]
     ⟨.inr (.mk1 (RC.ptr (v:=ptrTo w.heap.size) (p:=[]) rfl rfl trivial .nil) rfl rfl),.inr (.mk1 (RC.ptr (v:=ptrTo (w.heap.size+1)) (p:=[]) rfl rfl trivial .nil) rfl rfl),trivial⟩ HR (fun m hm=>nm3_out hm)
    refine (do_first B 0 191 #[ptrTo w.heap.size,ptrTo (w.heap.size+1)] W (fun w'=>∃ v' r' ι' St',ResP PE (W.setCell ⟨B,1,none⟩ (.int .i32 1)) (smallK St (ktSize (.node w0 v l r))) (OwnH (nthO [.box (.ptr 2 []),.box (.int .i64 w0),knotObj PE v l r dl]) (nm3 w.heap.size (w.heap.size+1) B)) (nm3 w.heap.size (w.heap.size+1) B) 3
      (fun _ _=>True) v' w' r' [.box (.ptr 2 []),.box (.int .i64 w0),knotObj PE v l r (digT w0 (.node w0 v l r))] ι' St') (hcs 0 _ rfl) (hcs 1 _ rfl) (hth 0 (by simp)).2 (hth 1 (by simp)).2
      (fun w=>MuLone.run_callFunc_enter Tryz.func191 (by kernel_rfl) rfl _ _) ?_).mono ?_
    ·refine hcall.mono ?_
     rintro e w' ⟨r',v',objs',ι',St',rfl,q⟩
     obtain⟨rfl,rfl⟩:=q.k
     have hv:v'=.tuple #[]:=by
      obtain⟨us,rfl,hu⟩:=q.val
      obtain⟨us⟩:=us
      cases us with
      | nil=>rfl
      | cons _ _=>exact hu.elim
     subst hv
     have q':ResP PE (W.setCell ⟨B,1,none⟩ (.int .i32 1)) (smallK St (ktSize (.node w0 v l r))) (OwnH (nthO [.box (.ptr 2 []),.box (.int .i64 w0),knotObj PE v l r dl]) (nm3 w.heap.size (w.heap.size+1) B)) (nm3 w.heap.size (w.heap.size+1) B) 3
      (fun _ _=>True) (.tuple #[]) w' (.tup []) [.box (.ptr 2 []),.box (.int .i64 w0),knotObj PE v l r (digT w0 (.node w0 v l r))] ι' St':=⟨trivial,q.val,q.heap,q.out,q.old,q.fr,q.own,q.gr,q.kn⟩
     exact⟨rfl,(once_done PEok SW ltW hB (by rw[T.size];omega) (by rw[T.size];omega) a0 a1 hlz rfl q').1,_,_,_,_,q'⟩
    ·rintro e W2 ⟨rfl,w1,⟨v',r',ι',St',q'⟩,rfl⟩
     obtain⟨-,g1,⟨ds,g2,g3⟩,g4,g5,g6,g7⟩:=once_done PEok SW ltW hB (by rw[T.size];omega) (by rw[T.size];omega) a0 a1 hlz rfl q'
     obtain⟨rfl,-⟩:=rc_dig (dl:=digT w0 (.node w0 v l r)) g2
     obtain⟨k1,-⟩:=load24 hl g3
     obtain⟨k2,k3⟩:=dig_var (w:=w) ((g5.same _ s2 fun h=>by
      rcases h with (h|h)|h
      ·omega
      ·omega
      ·exact s1 h.an).trans T.h2) hl
     exact⟨rfl,dgV (digT w0 (.node w0 v l r)),⟨load68 g4,k1,k2,k3⟩,rfl,W,_,T,g5,g1,fun _ _ _ h=>.inl h,fun g b h=>h.elim .inl (g6 g b),fun b ⟨g,h⟩=>by
      rw[World.size_setCell,World.size_setCell]
      rcases h with h|h
      ·exact Nat.lt_of_lt_of_le (ltW b ⟨g,h⟩) (by have:=g5.size;simpa using this)
      ·exact g7 b ⟨g,h⟩⟩
   ·
    have hcs:W.rangeAt B 0 (([Value.int .u32 1,.int .i32 0,.int .u32 0]++ds0)++(ls++[pl,pr])):=by
     have:=K0.at_;rw[hms] at this;exact this
    obtain⟨rfl,-⟩:=rc_dig (dl:=digT w0 (.node w0 v l r)) rdl
    have hr3:W.rangeAt B 3 ((digT w0 (.node w0 v l r)).map (Value.int .u8)):=by
     have:=rangeAt_sub hcs 3 ((digT w0 (.node w0 v l r)).map (Value.int .u8)).length
     simpa using this
    obtain⟨k1,-⟩:=load24 hl hr3
    obtain⟨k2,k3⟩:=dig_var (w:=w) (W':=W) T.h2 hl
    refine (do_done ⟨B,0,none⟩ 1 (by decide) _ W (hcs 0 _ rfl)).mono ?_
    rintro e W' ⟨rfl,rfl⟩
    exact⟨rfl,dgV (digT w0 (.node w0 v l r)),⟨load68 T.c0,k1,k2,k3⟩,rfl,W',St,T,Fr.refl _ _,SW,fun _ _ _ h=>h,fun _ _ h=>.inl h,ltW⟩
  ·rintro e w' ⟨ds,rfl,W',⟨rfl,W,St',T,f,g1,g2,g3,g4⟩,rfl⟩
   exact⟨_,_,[],St',rfl,dig_fin hK hl hlt (((three_fr T _).trans f).mono fun b _ h=>h.imp (fun h=>by omega) id) (by have:=f.size;rw[T.size] at this;exact this) g1 g2 (fun g b h=>(g3 g b h).imp id fun h=>by rw[T.size] at h;exact h) g4⟩
end Go.V
