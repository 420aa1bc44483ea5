import Derived.Test.YtnmecdecebdfiaaDoorVP23I
import Derived.Shelf.Strconv.AtoiAll
import Derived.Shelf.Strconv.Itoa3
import Derived.Shelf.Strings.SlTrimAscii
set_option linter.unusedVariables false
set_option linter.unusedSimpArgs false
set_option maxRecDepth 100000
namespace Go.V
open Go Go.Proofs Go.Sort
section
variable {w w':World} {St:Ck PU->Nat->Prop} {ι:Nat->Option Value} {f:Nat} {args:List (A PU)} {K:Kt PU}
theorem row_of(hf:Nat.blt f 1000000=true)(hp:memN f PE.procs=false){fn:Func}(h1:PE.P.funcs[f]?=some fn)(h2:fn.body.isSome=true)(h3:(fn.name == "runtime.NumGoroutine")=false)
  (h:∀ (w:World) (St:Ck PU->Nat->Prop) (vs:Array Value),RVs PE w St noNm args vs.toList->(∀ B,An St B->B<w.heap.size)->Sup PE w St →
   Calls PE.P f vs w fun e w'=>∃ r v bs St',e=.returned v/\Result' PE w St K v w' r bs St'):RowSound PE f args [] K:=
 RowSound.of_fn hf fun _=>⟨fun _ _=>⟨⟨fn,h1,h2,h3⟩,h⟩,fun e=>by rw[hp] at e;cases e⟩
theorem args1{a:A PU}{vs:Array Value}(h:RVs PE w St ι [a] vs.toList):∃ v,vs = #[v]/\(a=.none\/RV PE w St ι a v):=by
 obtain⟨vs⟩:=vs
 cases vs with
 | nil=>exact h.elim
 | cons v l=>
  cases l with
  | nil=>exact⟨v,rfl,h.1⟩
  | cons _ _=>exact h.2.elim
theorem args2{a b:A PU}{vs:Array Value}(h:RVs PE w St ι [a,b] vs.toList):∃ v u,vs = #[v,u]/\(a=.none\/RV PE w St ι a v)/\(b=.none\/RV PE w St ι b u):=by
 obtain⟨vs⟩:=vs
 cases vs with
 | nil=>exact h.elim
 | cons v l=>
  cases l with
  | nil=>exact h.2.elim
  | cons u l=>
   cases l with
   | nil=>exact⟨v,u,rfl,h.1,h.2.1⟩
   | cons _ _=>exact h.2.2.elim
theorem str_arg{s:ByteArray}{v:Value}(h:(.str s:A PU)=.none\/RV PE w St ι (.str s) v):v=.string s:=(h.resolve_left (by intro e;cases e)).str_inv
theorem int_arg{n:Int}{v:Value}(h:(.int .i64 n:A PU)=.none\/RV PE w St ι (.int .i64 n) v):v=.int .i64 n:=(h.resolve_left (by intro e;cases e)).int_inv
theorem res_of(hlt:∀ B,An St B->B<w.heap.size)(hS:Sup PE w St)(hb:Go.RowKit.Below w.heap.size w w'){r:A PU}{v:Value}{bs:List Nat}(hk:K r [])(hv:RTb PE w' St r v bs)(hn:∀ B∈bs,w.heap.size<=B/\B<w'.heap.size)(hd:bs.Nodup):Result' PE w St K v w' r bs St:=
 ⟨hk,hv,⟨hb.size,fun b h _=>hb.block b h,hb.output,hb.os,hb.tape,.inl trivial⟩,
  hS.ext (ι:=noNm) (ι':=noNm) ⟨fun _ _ h=>h,fun _ _ h=>h,fun b h=>hb.block b (hlt b h.an),hb.size⟩ hS.up hS.cls (fun _ _ _ h=>h) fun b h=>hb.block b (hlt b h.an),
  fun _ _ _ h=>h,fun B h=>⟨(hn B h).1,(hn B h).2,fun h'=>by have:=hlt B h';have:=(hn B h).1;omega⟩,hd,fun g B h=>.inl h,fun B h=>Nat.lt_of_lt_of_le (hlt B h) hb.size⟩
theorem below_grow(w:World)(k:Nat)(os:Array Obj):Go.RowKit.Below w.heap.size w (grow (w.drewN k) os):=
 ⟨rfl,rfl,rfl,by simp[grow,World.drewN],fun b h=>by simp only[grow,World.drewN];exact Array.getElem?_append_left h⟩
theorem rc_u64:∀ {l:List Int} {ds:List Value},RC PE w St ι ((l:List (PU 96)).map (PE.enc 96)) ds []->ds=l.map (.int .u64)
 | [],ds,h=>by cases h;rfl
 | n::l,ds,h=>by
  have h':RC PE w St ι ((.int .u64 n:A PU)::(l:List (PU 96)).map (PE.enc 96)) ds []:=h
  cases h' with
  | int h=>rw[List.map_cons,<-rc_u64 h]
theorem tab5(hS:Sup PE w St):Lib.TabIs PE.P w "internal/strconv.uint64pow10" .u64 Lib.pow10Tab:=by
 obtain⟨h1,h2⟩:=hS.glo 5
 obtain⟨-,cs,t,m,h3,h4⟩:=h2 20 rfl
 have h1:RV PE w St noNm (.rp false 116 [G_internal_strconv_uint64pow10] 0 []) (.pointer (some ⟨5,0,.none⟩)):=h1
 obtain⟨ds,B,off,q1,q2,-,-,-,q3⟩:=h1.rp_inv
 have e:B=5/\off=0:=by
  simp only[Value.pointer.injEq,Option.some.injEq,Addr.mk.injEq] at q3
  have:=q3.2.1
  simp[po] at this
  exact⟨q3.1.symm,this.symm⟩
 obtain⟨rfl,rfl⟩:=e
 have q1:RC PE w St noNm [(.arr 96 20 (G_internal_strconv_uint64pow10:List (PU 96)):A PU)] ds []:=q1
 have hds:=rc_u64 q1.arr_inv.2.1
 have hG:G_internal_strconv_uint64pow10=Lib.pow10Tab:=by decide
 rw[hG] at hds
 subst hds
 have hcs:cs=(Lib.pow10Tab.map (Value.int .u64)).toArray:=by
  apply Array.ext_getElem?
  intro i
  by_cases hi:i<20
  ·have hl:i<(Lib.pow10Tab.map (Value.int .u64)).length:=by rw[List.length_map,Lib.pow10Tab_length];exact hi
   have:=q2 i _ (List.getElem?_eq_getElem hl)
   simp only[World.cell?,Nat.zero_add,h3] at this
   have this:cs[i]?=_:=this
   rw[this,List.getElem?_toArray,List.getElem?_eq_getElem hl]
  ·rw[Array.getElem?_eq_none (by omega),List.getElem?_toArray,List.getElem?_eq_none (by rw[List.length_map,Lib.pow10Tab_length];omega)]
 unfold Lib.TabIs World.var?
 rw[show PE.P.globalNamed "internal/strconv.uint64pow10" = some 5 by kernel_rfl,Option.bind_some,h3]
 exact congrArg some hcs
theorem err_cell(hS:Sup PE w St){g:Nat}{x:IV}(hg:PE.glob g=.rp false 63 [x] 0 []):∃ ev,w.cell? ⟨g,0,none⟩=some ev/\(ev=.nilIface\/∃ t u,ev=.iface t u):=by
 have h1:=(hS.glo g).1
 rw[hg] at h1
 have h1:RV PE w St noNm (.rp false 63 [x] 0 []) (.pointer (some ⟨g,0,.none⟩)):=h1
 obtain⟨ds,B,off,q1,q2,-,-,-,q3⟩:=h1.rp_inv
 have e:B=g/\off=0:=by
  simp only[Value.pointer.injEq,Option.some.injEq,Addr.mk.injEq] at q3
  have:=q3.2.1
  simp[po] at this
  exact⟨q3.1.symm,this.symm⟩
 obtain⟨rfl,rfl⟩:=e
 have q1:RC PE w St noNm [(.iv x:A PU)] ds []:=q1
 cases q1 with
 | iv hv h=>
  cases h
  exact⟨_,q2 0 _ rfl,hv.shape⟩
end
theorem hand32(r1:Int)(K:Kt PU)(h:(-9223372036854775808<=r1/\r1<=9223372036854775807)/\K (.str (itoaL r1)) []):RowSound PE 32 [.int .i64 r1] [] K:=by
 refine row_of (by rfl) (by kernel_rfl) Tryd.func32 (by kernel_rfl) (by kernel_rfl) fun w St vs hvs hlt hS=>?_
 obtain⟨v,rfl,hv⟩:=args1 hvs
 obtain rfl:=int_arg hv
 refine (Any.strconv_Itoa layItoa r1 h.1.1 h.1.2 w (tab5 hS)).mono ?_
 rintro e w' ⟨rfl,k,os,rfl⟩
 exact⟨_,_,[],St,rfl,res_of hlt hS (below_grow w k os) h.2 ⟨.str .nil,rfl⟩ (by simp) .nil⟩
theorem hand41(r1 r2:ByteArray)(K:Kt PU)(h:((0<ByteArray.size r1/\ByteArray.size r1<=1000000)/\asciiL r2=true)/\K (.str (trimL r1 r2)) []):RowSound PE 41 [.str r1,.str r2] [] K:=by
 refine row_of (by rfl) (by kernel_rfl) Tryd.func41 (by kernel_rfl) (by kernel_rfl) fun w St vs hvs hlt hS=>?_
 obtain⟨v,u,rfl,hv,hu⟩:=args2 hvs
 obtain rfl:=str_arg hv
 obtain rfl:=str_arg hu
 obtain⟨⟨⟨h1,h2⟩,h3⟩,hk⟩:=h
 unfold asciiL at h3
 simp only[Bool.and_eq_true,decide_eq_true_eq] at h3
 refine (Any.strings_Trim_laid layTrim (by kernel_rfl) r1 r2 w (by omega) (by omega) (ascii_of_all h3.2.2)).mono ?_
 rintro e w' ⟨rfl,hb⟩
 exact⟨_,_,[],St,rfl,res_of hlt hS hb hk ⟨.str .nil,rfl⟩ (by simp) .nil⟩
theorem hand31(r1:ByteArray)(K:Kt PU)(h:(ByteArray.size r1<=1000000)/\K (.tup [.int .i64 (atoiN r1),.iv (atoiE r1)]) []):RowSound PE 31 [.str r1] [] K:=by
 refine row_of (by rfl) (by kernel_rfl) Tryd.func31 (by kernel_rfl) (by kernel_rfl) fun w St vs hvs hlt hS=>?_
 obtain⟨v,rfl,hv⟩:=args1 hvs
 obtain rfl:=str_arg hv
 obtain⟨h1,hk⟩:=h
 have tup:∀ (w':World) (n:Int) (x:IV) (v:Value),IVR x v->RTb PE w' St (.tup [.int .i64 n,.iv x]) (.tuple #[.int .i64 n,v]) []:=fun w' n x v hx=>by
  have hc:v.cells.toList=[v]/\isAggV v=false:=by rcases hx.shape with rfl|⟨t,u,rfl⟩<;>exact⟨rfl,rfl⟩
  refine⟨#[.int .i64 n,v],rfl,[],[],rfl,.int .nil,rfl,[],[],rfl,?_,hc.2,rfl⟩
  rw[hc.1]
  exact .iv hx .nil
 cases ha:Lib.atoiAll r1.data.toList with
 | ok n=>
  have e1:atoiN r1=n:=by unfold atoiN;rw[ha]
  have e2:atoiE r1=.nil:=by unfold atoiE;rw[ha]
  rw[e1,e2] at hk
  refine (Any.strconv_Atoi_ok layAtoi r1 (by omega) n ha w).mono ?_
  rintro e w' ⟨rfl,hw⟩
  have hb:Go.RowKit.Below w.heap.size w w':=by
   rcases hw with rfl|⟨t,rfl⟩
   ·exact Go.RowKit.Below.refl _ _
   ·exact Lib.bytesWorld_below _ _ _
  exact⟨_,_,[],St,rfl,res_of hlt hS hb hk (tup w' n .nil .nilIface rfl) (by simp) .nil⟩
 | «syntax» =>
  have e1:atoiN r1=0:=by unfold atoiN;rw[ha]
  have e2:atoiE r1=.ref:=by unfold atoiE;rw[ha]
  rw[e1,e2] at hk
  obtain⟨ev,hc,hev⟩:=err_cell hS (g:=3) (x:=G_strconv_ErrSyntax) rfl
  refine (Any.strconv_Atoi_syntax layAtoi r1 (by omega) ha ev w hc hev).mono ?_
  rintro e w' ⟨N,rfl,-,-,hb⟩
  exact⟨_,_,[],St,rfl,res_of hlt hS hb hk (tup w' 0 .ref _ ⟨_,_,rfl⟩) (by simp) .nil⟩
 | range=>
  have e1:atoiN r1=Lib.atoiSat r1.data.toList:=by unfold atoiN;rw[ha]
  have e2:atoiE r1=.ref:=by unfold atoiE;rw[ha]
  rw[e1,e2] at hk
  obtain⟨ev,hc,hev⟩:=err_cell hS (g:=4) (x:=G_strconv_ErrRange) rfl
  refine (Any.strconv_Atoi_range layAtoi r1 (by omega) ha ev w hc hev).mono ?_
  rintro e w' ⟨N,rfl,-,-,hb⟩
  exact⟨_,_,[],St,rfl,res_of hlt hS hb hk (tup w' _ .ref _ ⟨_,_,rfl⟩) (by simp) .nil⟩
theorem rc_strs{w:World}{St:Ck PU->Nat->Prop}:∀ l:List ByteArray,RC PE w St noNm ((l:List (PU 9)).map (PE.enc 9)) (l.map Value.string) []
 | []=>.nil
 | s::l=>.str (rc_strs l)
theorem hand10(r1 r2:ByteArray)(K:Kt PU)(h:(ByteArray.size r2=1/\ByteArray.size r1<=1000000)/\K (.usl 9 (splitL r1 r2)) []):RowSound PE 10 [.str r1,.str r2] [] K:=by
 refine row_of (by rfl) (by kernel_rfl) Tryd.func10 (by kernel_rfl) (by kernel_rfl) fun w St vs hvs hlt hS=>?_
 obtain⟨v,u,rfl,hv,hu⟩:=args2 hvs
 obtain rfl:=str_arg hv
 obtain rfl:=str_arg hu
 obtain⟨⟨h1,h2⟩,hk⟩:=h
 obtain⟨c,rfl⟩:=Lib.one_byte r2 h1
 refine (split_one laySplit (by kernel_rfl) r1 c w h2).mono ?_
 rintro e w' ⟨rfl,rfl⟩
 generalize hL:splitL r1 ⟨#[c]⟩=L at hk
 have hB:Go.RowKit.Below w.heap.size w (w.alloc (.cells (L.map Value.string).toArray (laySplit_ren.t 9))):=(Go.RowKit.Below.refl _ _).alloc (Nat.le_refl _) _
 have hnew:(w.alloc (.cells (L.map Value.string).toArray (laySplit_ren.t 9))).heap[w.heap.size]?=some (.cells (L.map Value.string).toArray (laySplit_ren.t 9)):=heap_alloc_new w _
 have hlt2:w.heap.size<(w.alloc (.cells (L.map Value.string).toArray (laySplit_ren.t 9))).heap.size:=by rw[World.size_alloc];omega
 revert hB hnew hlt2
 generalize w.alloc (.cells (L.map Value.string).toArray (laySplit_ren.t 9))=W
 intro hB hnew hlt2
 have hcell:∀ j:Nat,W.cell? ⟨w.heap.size,j,none⟩=(L.map Value.string)[j]?:=fun j=>by
  simp only[World.cell?,hnew]
  show (L.map Value.string).toArray[j]?=_
  rw[List.getElem?_toArray]
 have hfr:∀ j:Nat,W.frozen? ⟨w.heap.size,j,none⟩=false:=fun j=>by
  simp only[World.frozen?,hnew]
  simp
 have hsz:PE.sz 9=1:=by kernel_rfl
 refine⟨.usl 9 L,_,[w.heap.size],St,rfl,res_of hlt hS hB hk ⟨?_,rfl⟩ (fun B h=>?_) (by simp)⟩
 ·have h0:RC PE W St noNm ((L:List (PU 9)).map (PE.enc 9)) (L.map Value.string) []:=rc_strs L
  suffices h:RC PE W St noNm [(.usl 9 (L:List (PU 9)):A PU)] [.slice (some ⟨w.heap.size,0,none⟩) L.length L.length] [w.heap.size] from h
  refine RC.usl h0 ?_ ⟨fun j hj=>?_,fun _ j=>?_⟩ (Nat.le_refl _) hlt2 .nil
  ·intro j v hj
   rw[Nat.zero_add,hcell];exact hj
  ·rw[Nat.zero_add,hcell]
   refine⟨?_,hfr j⟩
   rw[hsz,Nat.mul_one] at hj
   rw[List.getElem?_eq_getElem (by rw[List.length_map];exact hj)];rfl
  ·rw[Nat.zero_add];exact hfr j
 ·obtain rfl:=List.mem_singleton.1 h
  exact⟨Nat.le_refl _,hlt2⟩
end Go.V
