import Derived.Test.YtgeonfbhejigjaaGreatDoorVI10H
import Derived.Shelf.SlLaysF0
import Derived.Shelf.SlSortCmp.WholeK
import Derived.Shelf.SlSortCmp.NoneTotal
import Derived.Lib.SortBridge
import Derived.KernelRfl
set_option linter.unusedVariables false
set_option linter.unusedSimpArgs false
set_option maxRecDepth 100000
set_option maxHeartbeats 1600000
namespace Go.Proofs
open Go.Shelf
def sortRen:Go.Shelf.Ren where
 f:=fun x=>match x with
  | 6=>185
  | 15=>199
  | 14=>198
  | 28=>211
  | 29=>212
  | 20=>203
  | 21=>204
  | 22=>205
  | 23=>206
  | 24=>207
  | 25=>208
  | 26=>209
  | 27=>210
  | 46=>218
  | 47=>219
  | 48=>220
  | 49=>221
  | 50=>222
  | 57=>227
  | n=>n
 t:=fun x=>match x with
  | 22=>100
  | 24=>140
  | 25=>234
  | 3=>3
  | 39=>201
  | 0=>0
  | 53=>189
  | 55=>221
  | 4=>4
  | 46=>261
  | 45=>260
  | 50=>127
  | 5=>5
  | 9=>9
  | 66=>272
  | 70=>276
  | 76=>281
  | 77=>282
  | n=>n
 g:=fun n=>n
theorem laysSort:SlLaysF0.n6 Tryz.prog sortRen:=
{mixed:=by kernel_rfl,
 f6:=⟨ "slices.SortFunc[[]tabellion/api.Leaf,tabellion/api.Leaf]",by decide,Tryz.func185.trans (congrArg some (by kernel_rfl))⟩,
 f14:=⟨ "slices.pdqsortCmpFunc[tabellion/api.Leaf]",by decide,Tryz.func198.trans (congrArg some (by kernel_rfl))⟩,
 f15:=Tryz.func199.trans (congrArg some (by kernel_rfl)),
 f20:=⟨ "slices.insertionSortCmpFunc[tabellion/api.Leaf]",by decide,Tryz.func203.trans (congrArg some (by kernel_rfl))⟩,
 f21:=⟨ "slices.heapSortCmpFunc[tabellion/api.Leaf]",by decide,Tryz.func204.trans (congrArg some (by kernel_rfl))⟩,
 f22:=⟨ "slices.breakPatternsCmpFunc[tabellion/api.Leaf]",by decide,Tryz.func205.trans (congrArg some (by kernel_rfl))⟩,
 f23:=⟨ "slices.choosePivotCmpFunc[tabellion/api.Leaf]",by decide,Tryz.func206.trans (congrArg some (by kernel_rfl))⟩,
 f24:=⟨ "slices.reverseRangeCmpFunc[tabellion/api.Leaf]",by decide,Tryz.func207.trans (congrArg some (by kernel_rfl))⟩,
 f25:=⟨ "slices.partialInsertionSortCmpFunc[tabellion/api.Leaf]",by decide,Tryz.func208.trans (congrArg some (by kernel_rfl))⟩,
 f26:=⟨ "slices.partitionEqualCmpFunc[tabellion/api.Leaf]",by decide,Tryz.func209.trans (congrArg some (by kernel_rfl))⟩,
 f27:=⟨ "slices.partitionCmpFunc[tabellion/api.Leaf]",by decide,Tryz.func210.trans (congrArg some (by kernel_rfl))⟩,
 f28:=Tryz.func211.trans (congrArg some (by kernel_rfl)),
 f29:=Tryz.func212.trans (congrArg some (by kernel_rfl)),
 f46:=⟨ "slices.siftDownCmpFunc[tabellion/api.Leaf]",by decide,Tryz.func218.trans (congrArg some (by kernel_rfl))⟩,
 f47:=Tryz.func219.trans (congrArg some (by kernel_rfl)),
 f48:=Tryz.func220.trans (congrArg some (by kernel_rfl)),
 f49:=⟨ "slices.medianAdjacentCmpFunc[tabellion/api.Leaf]",by decide,Tryz.func221.trans (congrArg some (by kernel_rfl))⟩,
 f50:=⟨ "slices.medianCmpFunc[tabellion/api.Leaf]",by decide,Tryz.func222.trans (congrArg some (by kernel_rfl))⟩,
 f57:=⟨ "slices.order2CmpFunc[tabellion/api.Leaf]",by decide,Tryz.func227.trans (congrArg some (by kernel_rfl))⟩,
 t0:=Tryz.underlying0,
 a0:=Tryz.isAgg0,
 z0:=Tryz.sizeOf0,
 v0:=Tryz.zeroValue0,
 t3:=Tryz.underlying3,
 a3:=Tryz.isAgg3,
 z3:=Tryz.sizeOf3,
 v3:=Tryz.zeroValue3,
 t4:=Tryz.underlying4,
 a4:=Tryz.isAgg4,
 z4:=Tryz.sizeOf4,
 v4:=Tryz.zeroValue4,
 t5:=Tryz.underlying5,
 a5:=Tryz.isAgg5,
 z5:=Tryz.sizeOf5,
 v5:=Tryz.zeroValue5,
 t9:=Tryz.underlying9,
 a9:=Tryz.isAgg9,
 z9:=Tryz.sizeOf9,
 v9:=Tryz.zeroValue9,
 t22:=Tryz.underlying100,
 a22:=Tryz.isAgg100,
 z22:=Tryz.sizeOf100,
 v22:=Tryz.zeroValue100,
 t25:=Tryz.underlying234,
 a25:=Tryz.isAgg234,
 z25:=Tryz.sizeOf234,
 v25:=Tryz.zeroValue234,
 t39:=Tryz.underlying201,
 a39:=Tryz.isAgg201,
 z39:=Tryz.sizeOf201,
 v39:=Tryz.zeroValue201,
 t45:=Tryz.underlying260,
 a45:=Tryz.isAgg260,
 z45:=Tryz.sizeOf260,
 v45:=Tryz.zeroValue260,
 t46:=Tryz.underlying261,
 a46:=Tryz.isAgg261,
 z46:=Tryz.sizeOf261,
 v46:=Tryz.zeroValue261,
 t50:=Tryz.underlying127,
 a50:=Tryz.isAgg127,
 z50:=Tryz.sizeOf127,
 v50:=Tryz.zeroValue127,
 t53:=Tryz.underlying189,
 a53:=Tryz.isAgg189,
 z53:=Tryz.sizeOf189,
 v53:=Tryz.zeroValue189,
 t55:=Tryz.underlying221,
 a55:=Tryz.isAgg221,
 z55:=Tryz.sizeOf221,
 v55:=Tryz.zeroValue221,
 t66:=Tryz.underlying272,
 a66:=Tryz.isAgg272,
 z66:=Tryz.sizeOf272,
 v66:=Tryz.zeroValue272,
 t70:=Tryz.underlying276,
 a70:=Tryz.isAgg276,
 z70:=Tryz.sizeOf276,
 v70:=Tryz.zeroValue276,
 t76:=Tryz.underlying281,
 a76:=Tryz.isAgg281,
 z76:=Tryz.sizeOf281,
 v76:=Tryz.zeroValue281,
 t77:=Tryz.underlying282,
 a77:=Tryz.isAgg282,
 z77:=Tryz.sizeOf282,
 v77:=Tryz.zeroValue282 }
end Go.Proofs
namespace Go.V
open Go Go.Proofs
theorem cmpL_self:∀ a:List Int,cmpL a a=0
 | []=>rfl
 | x::a=>by simp[cmpL,cmpL_self a]
theorem cmpL_lt{a b:List Int}:cmpL a b<0↔a<b:=by
 induction a generalizing b with
 | nil=>cases b<;>simp[cmpL]
 | cons x a ih=>
  cases b with
  | nil=>simp[cmpL]
  | cons y b=>
   simp only[cmpL,List.cons_lt_cons_iff]
   by_cases h1:x<y
   ·simp[h1]
   ·by_cases h2:y<x
    ·have h3:¬x=y:=by omega
     simp[h1,h2,h3]
    ·have e:x=y:=by omega
     subst e
     simp[ih]
abbrev Lf32:={ x:S_api_Leaf // x.f0.length=32/\x.f1.length=32 }
instance:Inhabited Lf32:=⟨⟨⟨List.replicate 32 0,List.replicate 32 0⟩,by simp⟩⟩
def encLf(x:Lf32):List Value:=(x.1.f0++x.1.f1).map (Value.int .u8)
theorem encLf_len(x:Lf32):(encLf x).length=64:=by
 have:=x.2
 simp only[encLf,List.length_map,List.length_append];omega
def cfLf(x y:Lf32):Int:=cmpL x.1.f0 y.1.f0
theorem swoLf:Sort.SWO (Go.Proofs.ltOf cfLf):=by
 refine⟨fun x=>?_,fun x y z h1 h2=>?_,fun x y z h1 h2=>?_⟩
 ·simp[Go.Proofs.ltOf,cfLf,cmpL_self]
 ·simp only[Go.Proofs.ltOf,cfLf,decide_eq_true_eq,cmpL_lt] at *
  exact Std.lt_trans h1 h2
 ·simp only[Go.Proofs.ltOf,cfLf,decide_eq_false_iff_not,cmpL_lt] at *
  exact fun h=>by
   have a1:=Std.not_lt.1 h1
   have a2:=Std.not_lt.1 h2
   exact Std.not_lt.2 (Std.le_trans a2 a1) h
end Go.V
namespace Go.V
open Go Go.Proofs Go.Sort Go.Shelf
theorem flat_get(k:Nat)(hk:0<k):∀ (L:List (List Value)),(∀ x∈L,x.length=k)->∀ t,t<L.length*k->L.flatten[t]?=(L.getD (t / k) [])[t % k]?
 | [],_,t,ht=>by simp at ht
 | x::L,hL,t,ht=>by
  have hx:x.length=k:=hL x (by simp)
  rw[List.flatten_cons]
  by_cases h:t<k
  ·rw[List.getElem?_append_left (by omega),Nat.div_eq_of_lt h,Nat.mod_eq_of_lt h];rfl
  ·rw[List.getElem?_append_right (by omega),hx]
   have e1:t / k=(t-k) / k+1:=by
    rw[Nat.div_eq_sub_div hk (by omega)]
   have e2:t % k=(t-k) % k:=(Nat.mod_eq_sub_mod (by omega))
   rw[flat_get k hk L (fun y hy=>hL y (by simp[hy])) (t-k) (by rw[List.length_cons,Nat.add_mul] at ht;omega),e1,e2]
   rfl
theorem flat_len(k:Nat):∀ (L:List (List Value)),(∀ x∈L,x.length=k)->L.flatten.length=L.length*k
 | [],_=>by simp
 | x::L,hL=>by
  rw[List.flatten_cons,List.length_append,flat_len k L fun y hy=>hL y (by simp[hy]),hL x (by simp),List.length_cons,Nat.add_mul]
  omega
theorem flatK_list(d:Array Lf32):(flatK encLf 64 d).toList=(d.toList.map encLf).flatten:=by
 have hall:∀ x∈d.toList.map encLf,x.length=64:=by
  intro x hx
  obtain⟨y,-,rfl⟩:=List.mem_map.1 hx
  exact encLf_len y
 apply List.ext_getElem?
 intro t
 by_cases ht:t<d.size*64
 ·have hq:t / 64<d.size:=by omega
  rw[flat_get 64 (by decide) _ hall t (by simpa using ht)]
  have h1:(d.toList.map encLf).getD (t / 64) []=encLf d[t / 64]!:=by
   rw[List.getD_eq_getElem?_getD,List.getElem?_map,Array.getElem?_toList,Array.getElem?_eq_getElem hq,getElem!_pos d _ hq];rfl
  rw[h1]
  have h2:t % 64<(encLf d[t / 64]!).length:=by rw[encLf_len];omega
  rw[List.getElem?_eq_getElem h2]
  simp only[flatK,Array.toList_map,List.getElem?_map,Array.toList_range]
  rw[List.getElem?_range ht]
  simp only[Option.map_some,Option.some.injEq]
  rw[getElem!_pos (encLf d[t / 64]!) (t % 64) h2]
 ·rw[List.getElem?_eq_none (by simp[flatK];omega),List.getElem?_eq_none (by rw[flat_len 64 _ hall];simp;omega)]
section
variable {w:World} {St:Ck PU->Nat->Prop} {ι:Nat->Option Value}
theorem rc_leaves:∀ (l:List S_api_Leaf) {ds:List Value},RC PE w St ι ((l:List (PU 140)).map (PE.enc 140)) ds []->∃ l':List Lf32,l'.map (·.1)=l/\ds=(l'.map encLf).flatten
 | [],ds,h=>by cases h;exact⟨[],rfl,rfl⟩
 | x::l,ds,h=>by
  have h':RC PE w St ι ((.agg [.arr 5 32 (x.f0:List (PU 5)),.arr 5 32 (x.f1:List (PU 5))]:A PU)::(l:List (PU 140)).map (PE.enc 140)) ds []:=h
  obtain⟨c1,c2,b1,b2,rfl,hb,h1,h2⟩:=RC.cons_inv h'
  obtain⟨rfl,rfl⟩:=nil_or hb
  obtain⟨c3,c4,b1,b2,rfl,hb,h3,h4⟩:=RC.cons_inv h1.agg_inv
  obtain⟨rfl,rfl⟩:=nil_or hb
  obtain⟨rfl,e1⟩:=rc_dig h3
  obtain⟨rfl,e2⟩:=rc_dig h4
  obtain⟨l',rfl,rfl⟩:=rc_leaves l h2
  exact⟨⟨x,e1,e2⟩::l',rfl,by simp[encLf]⟩
theorem rc_leaf(x:Lf32):RC PE w St ι [PE.enc 140 x.1] (encLf x) []:=by
 have h1:=rc_dgV (w:=w) (St:=St) (ι:=ι) x.2.1
 have h2:=rc_dgV (w:=w) (St:=St) (ι:=ι) x.2.2
 have h3:RC PE w St ι [.agg [.arr 5 32 (x.1.f0:List (PU 5)),.arr 5 32 (x.1.f1:List (PU 5))]] (x.1.f0.map (Value.int .u8)++x.1.f1.map (Value.int .u8)) []:=by
  simpa using RC.agg (RC.cons h1 h2) .nil
 have e:encLf x=x.1.f0.map (Value.int .u8)++x.1.f1.map (Value.int .u8):=by simp[encLf]
 rw[e]
 exact h3
theorem rc_of_leaves:∀ l':List Lf32,RC PE w St ι (((l'.map (·.1)):List (PU 140)).map (PE.enc 140)) ((l'.map encLf).flatten) []
 | []=>.nil
 | x::l'=>by
  have:=RC.cons (rc_leaf (w:=w) (St:=St) (ι:=ι) x) (rc_of_leaves l')
  simp only[List.append_nil] at this
  exact this
def onlyOn(St:Ck PU->Nat->Prop)(g:Ck PU)(B:Nat):Prop:=match g with
 | .on b=>St (.on b) B
 | .kn .. => False
theorem onlyOn_sup(h:Sup PE w St):Sup PE w (onlyOn St):=by
 refine⟨fun B h1=>h.up B h1,fun c x B h1=>h1.elim,fun g=>?_,fun c x B h1=>h1.elim,fun c x c' x' B h1=>h1.elim⟩
 have h2:=h.glo g
 rcases PGlobCl g with e|e
 ·rw[e];trivial
 ·have key:RV PE w St noNm (PE.glob g) (.pointer (some ⟨g,0,.none⟩))->RV PE w (onlyOn St) noNm (PE.glob g) (.pointer (some ⟨g,0,.none⟩)):=fun h=>⟨h.1.closed PEok.toEnvOk (St':=onlyOn St) (ι':=noNm) (fun B (h:St (.on false) B)=>h) (by simp[closeds,e]),h.2⟩
  revert h2 e key
  generalize PE.glob g=q
  intro h2 e key
  cases q with
  | none=>simp[closed] at e
  | tup l=>simp[closed] at e
  | _=>exact key h2
end
theorem world_ext{W w':World}(h1:W.heap.size<=w'.heap.size)(h2:∀ b,b<W.heap.size->w'.heap[b]?=W.heap[b]?)(h3:w'.tape=W.tape)(h4:w'.os=W.os)(h5:w'.output=W.output)(h6:W.drawn<=w'.drawn):∃ q os',w'=Go.Sort.grow (W.drewN q) os':=by
 refine⟨w'.drawn-W.drawn,w'.heap.extract W.heap.size w'.heap.size,?_⟩
 have hd:(W.drewN (w'.drawn-W.drawn)).drawn=w'.drawn/\(W.drewN (w'.drawn-W.drawn)).heap=W.heap/\(W.drewN (w'.drawn-W.drawn)).tape=W.tape/\(W.drewN (w'.drawn-W.drawn)).os=W.os/\(W.drewN (w'.drawn-W.drawn)).output=W.output:=by
  simp[World.drewN];omega
 obtain⟨d1,d2,d3,d4,d5⟩:=hd
 generalize W.drewN (w'.drawn-W.drawn)=V at *
 obtain⟨hp,tp,dr,os,out⟩:=w'
 obtain⟨hp2,tp2,dr2,os2,out2⟩:=V
 simp only[] at *
 subst d1 d2 d3 d4 d5
 simp only[Go.Sort.grow,World.mk.injEq]
 refine⟨?_,h3,trivial,h4,h5⟩
 apply Array.ext_getElem?
 intro i
 by_cases hi:i<W.heap.size
 ·rw[Array.getElem?_append_left hi];exact h2 i hi
 ·rw[Array.getElem?_append_right (by omega),Array.getElem?_extract]
  simp only[Nat.min_self]
  split
  ·congr 1;omega
  ·exact Array.getElem?_eq_none (by omega)
end Go.V
namespace Go.V
open Go Go.Proofs Go.Sort Go.Shelf
theorem sort62_none(p:Option Addr)(c:Nat)(fv:Value)(w:World):Calls PE.P 185 #[.slice p 0 c,fv] w fun e w'=>e=.returned (.tuple #[])/\w'=w:=
 AnyF.slices_SortFunc_none (P:=Tryz.prog) (ρ:=sortRen) laysSort p c fv w
theorem cells_grow{W:World}{os:Array Obj}{x:Addr}{v:Value}(hx:W.cell? x=some v):(grow W os).cell? x=some v:=by
 simp only[World.cell?,grow] at hx ⊢
 cases hb:W.heap[x.block]? with
 | none=>rw[hb] at hx;simp at hx
 | some o=>rw[Array.getElem?_append_left (Array.getElem?_eq_some_iff.1 hb).1,hb];rw[hb] at hx;exact hx
theorem froz_grow{W:World}{os:Array Obj}{x:Addr}(hx:x.block<W.heap.size):(grow W os).frozen? x=W.frozen? x:=by
 simp only[World.frozen?,grow]
 rw[Array.getElem?_append_left hx]
theorem heap_grow{W:World}{os:Array Obj}{b:Nat}(hb:b<W.heap.size):(grow W os).heap[b]?=W.heap[b]?:=Array.getElem?_append_left hb
theorem sortedL_of{d:Array Lf32}(h:SortedIn (Go.Proofs.ltOf cfLf) 0 d.size d):SortedL (d.toList.map (·.1)):=by
 unfold SortedL
 rw[List.pairwise_map,List.pairwise_iff_getElem]
 intro i j hi hj hij
 have hj':j<d.size:=by simpa using hj
 have hi':i<d.size:=by simpa using hi
 have:=h i j (Nat.zero_le _) hij hj'
 rw[getElem!_pos d j hj',getElem!_pos d i hi'] at this
 have h9:¬cfLf d[j] d[i]<0:=of_decide_eq_false this
 simp only[Array.getElem_toList]
 exact h9
theorem hand185(l:List S_api_Leaf)(K:A PU->List (AObj PU)->Prop){T:Tab PU}(TS:TSound PE T)(hlen:l.length<4611686018427387904)
  (hK:∀ l9:List S_api_Leaf,List.Perm l9 l/\SortedL l9->K (.tup []) [.lst 140 l9])
  (hC:∀ (a b:S_api_Leaf) (K':A PU->List (AObj PU)->Prop),(a.f0.length=32/\b.f0.length=32)->K' (.int .i64 (cmpL a.f0 b.f0)) []->T 186 [PE.enc 140 a,PE.enc 140 b] [] K') :
  RowSound PE 185 [.own 0,.clo 186 []] [.lst 140 l] K:=by
 have hpr:memN 185 PE.procs=true:=by kernel_rfl
 refine RowSound.of_fn (by rfl) fun _=>⟨fun hp=>(by rw[hpr] at hp;cases hp),fun _=>⟨⟨_,Tryz.func185,by kernel_rfl,by kernel_rfl⟩,fun w St ι vs hvs hH hout=>?_⟩⟩
 obtain⟨vs⟩:=vs
 obtain⟨a',L,C,rfl,hι⟩:∃ a' L C,vs=[.slice a' L C,.func (.func 186) #[] #[]]/\ι 0=some (.slice a' L C):=by
  cases vs with
  | nil=>exact hvs.elim
  | cons v0 vs=>
  cases vs with
  | nil=>exact hvs.2.elim
  | cons v1 vs=>
  cases vs with
  | cons _ _=>exact hvs.2.2.elim
  | nil=>
   obtain⟨a',L,C,rfl,hι⟩:=RV.own_inv (hvs.1.resolve_left (by intro e;cases e))
   obtain⟨us,rfl,h1,h2⟩:=RV.clo_inv (hvs.2.1.resolve_left (by intro e;cases e))
   have:us = #[]:=by
    obtain⟨us⟩:=us
    cases us with
    | nil=>rfl
    | cons _ _=>simp at h2
   subst this
   exact⟨a',L,C,rfl,hι⟩
 have h0:RO PE w St ι (.lst 140 l) (ι 0):=hH.obj 0
 have live:∀ (x:List (PU 140)) n,isLive (nthO [(.lst 140 x:AObj PU)] n)=true->n=0:=by
  intro x n hn
  cases n with
  | zero=>rfl
  | succ n=>simp[nthO,isLive] at hn
 rcases h0 with ⟨⟨a0,e⟩,hl⟩|⟨B,off,C',ds,e,h1,h2,h3,h4,h5⟩
 ·rw[hι] at e
  simp only[Option.some.injEq,Value.slice.injEq] at e
  obtain⟨rfl,rfl,rfl⟩:=e
  have hl':l=[]:=hl
  subst hl'
  refine (sort62_none a' 0 _ w).mono ?_
  rintro e w' ⟨rfl,rfl⟩
  exact⟨_,_,_,ι,St,rfl,hK [] ⟨.refl _,.nil⟩,⟨#[],rfl,trivial⟩,hH,hout,fun _ _=>rfl,Fr.refl _ _,fun B hB=>.inl hB,fun g B hB=>.inl hB,fun _ _ _ h=>h⟩
 ·rw[hι] at e
  simp only[Option.some.injEq,Value.slice.injEq] at e
  obtain⟨rfl,rfl,rfl⟩:=e
  obtain⟨l',rfl,rfl⟩:=rc_leaves l h1
  have hll:(l'.map (·.1)).length=l'.length:=List.length_map _
  have hB:blkO (ι 0)=some B:=by rw[hι];rfl
  have hBS:¬An St B:=hH.apt 0 B rfl hB
  have hsz:PE.sz 140=64:=by kernel_rfl
  have hall:∀ x∈l'.map encLf,x.length=64:=by
   intro x hx
   obtain⟨y,-,rfl⟩:=List.mem_map.1 hx
   exact encLf_len y
  have hflen:(l'.map encLf).flatten.length=l'.length*64:=by rw[flat_len 64 _ hall,List.length_map]
  have h4':l'.length<=C'+1:=by rw[<-hll];exact h4
  have hfk:(flatK encLf 64 l'.toArray).toList=(l'.map encLf).flatten:=by rw[flatK_list]
  have hold:HoldsK encLf 64 w B off l'.toArray:=by
   intro j hj
   have hj':j<l'.length*64:=by simpa using hj
   refine⟨?_,?_⟩
   ·refine h2 j _ ?_
    rw[<-hfk,Array.getElem?_toList,getElem!_pos (flatK encLf 64 l'.toArray) j hj,Array.getElem?_eq_getElem hj];rfl
   ·exact (h3.1 j (by rw[hsz];have:=Nat.mul_le_mul_right 64 h4';omega)).2
  have onW:∀ (m:Nat) (os:Array Obj) (dk:Array Lf32),dk.size=l'.length->sortWorldK encLf 64 w B off m dk os=grow ((w.drewN m).setCells B off (dk.toList.map encLf).flatten) os:=by
   intro m os dk hdk
   have:=Lib.sorted_world (α:=Value) id w B off m (flatK encLf 64 l'.toArray) (flatK encLf 64 dk).toList os hold (by simp[hdk])
   rw[Array.toArray_toList,List.map_id,flatK_list] at this
   exact this
  have sameW:∀ (m:Nat) (os:Array Obj) (fs:List Value) (b:Nat),b<w.heap.size->b≠B->(grow ((w.drewN m).setCells B off fs) os).heap[b]?=w.heap[b]?:=by
   intro m os fs b hb hne
   rw[heap_grow (by rw[size_setCells];exact hb),heap_setCells B _ _ _ b hne]
   rfl
  have szW:∀ (m:Nat) (os:Array Obj) (fs:List Value),w.heap.size<=(grow ((w.drewN m).setCells B off fs) os).heap.size:=by
   intro m os fs
   simp only[grow,Array.size_append,size_setCells]
   exact Nat.le_add_right _ _
  have hcmp:CmpLays Tryz.prog 186 #[] encLf 64 cfLf B off l'.toArray.size w:=by
   intro m os dk hdk x y
   rw[onW m os dk (by simpa using hdk)]
   generalize hWW:grow ((w.drewN m).setCells B off (dk.toList.map encLf).flatten) os=W
   have sW:∀ b,b<w.heap.size->b≠B->W.heap[b]?=w.heap[b]?:=fun b h h'=>by rw[<-hWW];exact sameW m os _ b h h'
   have zW:w.heap.size<=W.heap.size:=by rw[<-hWW];exact szW m os _
   have anO:∀ b,An (onlyOn St) b->An St b:=fun b ⟨g,h⟩=>by cases g with|on q=>exact⟨_,h⟩|kn _ _=>exact h.elim
   have SO:=onlyOn_sup hH.sup
   have S1:Sup PE W (onlyOn St):=SO.ext (ι:=noNm) (ι':=noNm) ⟨fun _ _ h=>h,fun _ _ h=>h,fun b hb=>sW b (hH.stb b (anO b hb.an)) fun e=>hBS (e▸anO b hb.an),zW⟩ SO.up SO.cls (fun _ _ _ h=>h) fun b hb=>sW b (hH.stb b (anO b hb.an)) fun e=>hBS (e▸anO b hb.an)
   obtain⟨-,hF⟩:=((TS 186 _ _ _ (hC x.1 y.1 (fun r _=>r=.int .i64 (cmpL x.1.f0 y.1.f0)) ⟨x.2.1,y.2.1⟩ rfl)).1 (by rfl)).1 (by kernel_rfl) rfl
   have hrv:∀ z:Lf32,RV PE W (onlyOn St) noNm (PE.enc 140 z.1) (.agg (encLf z).toArray):=fun z=>⟨by
    have:=rc_leaf (w:=W) (St:=onlyOn St) (ι:=noNm) z
    simpa[Value.cells] using this,rfl⟩
   have:=hF W (onlyOn St) #[.agg (encLf x).toArray,.agg (encLf y).toArray] ⟨.inr (hrv x),.inr (hrv y),trivial⟩ (fun b hb=>Nat.lt_of_lt_of_le (hH.stb b (anO b hb)) zW) S1
   refine Calls.mono this ?_
   rintro e w' ⟨r,v,bs,St',rfl,q⟩
   have hr:=q.k
   subst hr
   obtain⟨q1,q2⟩:=q.val
   have hv:v=.int .i64 (cmpL x.1.f0 y.1.f0):=by
    cases v with
    | agg cs=>simp[isAggV,isAgg] at q2
    | int k n=>simp only[Value.cells] at q1;cases q1;rfl
    | _=>simp only[Value.cells] at q1;cases q1
   subst hv
   exact⟨rfl,world_ext q.fr.size (fun b hb=>q.fr.same b hb fun ⟨c,y,h⟩=>h.elim) q.fr.tape q.fr.os q.fr.out q.fr.drn⟩
  have hrun:=AnyQ.slices_SortFunc laysSort 64 Tryz.isAgg140 Tryz.sizeOf140 encLf encLf_len (fun x v hv=>by
   obtain⟨n,-,rfl⟩:=List.mem_map.1 hv;rfl) cfLf swoLf 186 #[] B off (C'+1) l'.toArray w (fun args w=>MuLone.run_callFunc_enter Tryz.func186 (by kernel_rfl) rfl args w) hcmp hold h5 (by rw[hll] at hlen;simpa using hlen)
  have hrun':Calls PE.P 185 #[.slice (some ⟨B,off,none⟩) l'.length (C'+1),.func (.func 186) #[] #[]] w fun e w'=>e=.returned (.tuple #[])/\∃ d' n os,PermIn 0 l'.toArray.size l'.toArray d'/\SortedIn (Go.Proofs.ltOf cfLf) 0 l'.toArray.size d'/\w'=sortWorldK encLf 64 w B off n d' os:=by
   rw[show l'.length=l'.toArray.size by simp]
   exact hrun
  rw[<-hll] at hrun'
  refine Calls.mono hrun' fun e w' h9=>?_
  have e9:=h9.1
  subst e9
  obtain⟨d',g9⟩:=h9.2
  obtain⟨n,g9⟩:=g9
  obtain⟨os,g9⟩:=g9
  have hP:=g9.1
  have hSo:=g9.2.1
  have hw9:=g9.2.2
  clear g9 h9
  subst hw9
  have hds:d'.size=l'.length:=by simpa using hP.1
  rw[onW n os d' hds]
  have hperm:(d'.toList.map (·.1)).Perm (l'.map (·.1)):=by
   have:=hP.2.2
   rw[show l'.toArray.size=d'.size by simpa using hds.symm,Array.extract_size] at this
   have e2:l'.toArray.extract 0 d'.size=l'.toArray:=by rw[hds];simp
   rw[e2] at this
   exact this.map _
  have hsorted:=sortedL_of (d:=d') (by rw[hds];simpa using hSo)
  have hall':∀ x∈d'.toList.map encLf,x.length=64:=by
   intro x hx
   obtain⟨y,-,rfl⟩:=List.mem_map.1 hx
   exact encLf_len y
  have hflen':(d'.toList.map encLf).flatten.length=l'.length*64:=by rw[flat_len 64 _ hall',List.length_map,Array.length_toList,hds]
  have hlen':(d'.toList.map (·.1)).length=l'.length:=by rw[List.length_map,Array.length_toList,hds]
  have hr:(grow ((w.drewN n).setCells B off (d'.toList.map encLf).flatten) os).rangeAt B off (d'.toList.map encLf).flatten:=by
   have:=range_splice (w:=w.drewN n) (B:=B) (off:=off) (k:=0) (cs:=(l'.map encLf).flatten) (ds:=(d'.toList.map encLf).flatten) h2 (by omega)
   simp only[List.take_zero,List.nil_append,Nat.add_zero,Nat.zero_add] at this
   rw[List.drop_of_length_le (by omega),List.append_nil] at this
   exact fun j v hj=>cells_grow (this j v hj)
  have hT:thereA (PE.ty 140≠.int .u8) (grow ((w.drewN n).setCells B off (d'.toList.map encLf).flatten) os) B off ((C'+1)*PE.sz 140):=by
   have:=there_setCells (w:=w.drewN n) (B:=B) (B':=B) (o:=off) (ds:=(d'.toList.map encLf).flatten) h3.1
   refine⟨fun j hj=>?_,fun hq j=>?_⟩
   ·obtain⟨t1,t2⟩:=this j hj
    refine⟨?_,by rw[froz_grow (by rw[size_setCells];exact h5)];exact t2⟩
    obtain⟨v,hv⟩:=Option.isSome_iff_exists.1 t1
    rw[cells_grow hv];rfl
   ·rw[froz_grow (by rw[size_setCells];exact h5),World.frozen?_setCells]
    exact h3.2 hq j
  have SX:Sup PE (grow ((w.drewN n).setCells B off (d'.toList.map encLf).flatten) os) St:=hH.sup.ext (ι:=noNm) (ι':=noNm) ⟨fun _ _ h=>h,fun _ _ h=>h,fun b hb=>sameW n os _ b (hH.stb b hb.an) fun e=>hBS (e▸hb.an),szW n os _⟩ hH.sup.up hH.sup.cls (fun _ _ _ h=>h) fun b hb=>sameW n os _ b (hH.stb b hb.an) fun e=>hBS (e▸hb.an)
  refine⟨.tup [],_,[.lst 140 (d'.toList.map (·.1))],ι,St,rfl,hK _ ⟨hperm,hsorted⟩,⟨#[],rfl,trivial⟩,⟨fun n=>?_,fun n m B' h1 h2 _ _=>by rw[live _ n h1,live _ m h2],fun B' hB'=>Nat.lt_of_lt_of_le (hH.stb B' hB') (szW _ _ _),fun n B' hn hB'=>?_,SX⟩,hout,fun _ _=>rfl,
   ⟨szW _ _ _,fun b hb hn=>sameW _ _ _ b hb fun e=>hn (.inl (e▸⟨0,rfl,hB⟩)),?_,?_,?_,?_⟩,fun B' ⟨n,hn,hB'⟩=>.inl ?_,fun g B' hB'=>.inl hB',fun _ _ _ h=>h⟩
  ·cases n with
   | zero=>
    show RO PE _ St ι (.lst 140 (d'.toList.map (·.1))) (ι 0)
    refine .inr ⟨B,off,C',(d'.toList.map encLf).flatten,?_,rc_of_leaves d'.toList,hr,hT,?_,Nat.lt_of_lt_of_le h5 (szW _ _ _)⟩
    ·rw[hι]
     show some (Value.slice _ (l'.map (·.1)).length _)=some (Value.slice _ (d'.toList.map (·.1)).length _)
     rw[hlen',hll]
    ·show (d'.toList.map (·.1)).length<=_;rw[hlen'];exact h4'
   | succ n=>exact trivial
  ·obtain rfl:=live _ n hn
   exact hH.apt 0 B' rfl hB'
  ·exact (out_setCells B _ off (w.drewN n)).1
  ·exact (out_setCells B _ off (w.drewN n)).2.1
  ·exact (out_setCells B _ off (w.drewN n)).2.2.1
  ·show w.drawn<=((w.drewN n).setCells B off _).drawn
   rw[(out_setCells B _ off (w.drewN n)).2.2.2]
   simp[World.drewN]
  ·obtain rfl:=live _ n hn
   exact⟨0,rfl,hB'⟩
end Go.V
