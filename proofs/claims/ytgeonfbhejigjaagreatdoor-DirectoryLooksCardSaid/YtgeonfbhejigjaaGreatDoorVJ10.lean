/- V: VIns, VIns2, VIns3, VIns4, VIns5, VTab, VTab2 -/
import Derived.Test.YtgeonfbhejigjaaGreatDoorVJ09
import Derived.Laws.IdiomCopy
import Derived.Lib.Overlaps
import Derived.Lib.AppendZerosOnto
import Derived.Shelf.Spec.SlicesInsertGrow
import Derived.Shelf.SlGeneric
import Derived.Test.YtgeonfbhejigjaaGreatDoorVJ08
import Derived.Laws.LoneSync
set_option linter.unusedVariables false
set_option linter.unusedSimpArgs false
namespace Go.V
open Go
theorem run_copyK{P:Program}(w:World)(dT sT ty elem:TypeId)(z b o dLen dCap:Nat)(a:Addr)(sLen sCap n:Nat)(cs:List Value)
  (hu:P.underlying dT=some (.slice elem)) (hs:(P.info? elem).map (·.size)=some z) (hn:Nat.min sLen dLen=n) (hl:cs.length=n*z)
  (hsrc:∀ j v,cs[j]?=some v->w.cell? (a.add j)=some v) (hc:∀ j,j<cs.length->(w.cell? ⟨b,o+j,none⟩).isSome=true) (hf:∀ j,j<cs.length->w.frozen? ⟨b,o+j,none⟩=false) (h1:∀ v∈cs,v.oneCell'=true) :
  (Builtin.copy_ #[dT,sT] ty #[.slice (some ⟨b,o,none⟩) dLen dCap,.slice (some a) sLen sCap]).run P w=.ok (goInt n) (w.setCells b o cs):=by
 have hld:=run_loadCells_list (P:=P) w a cs hsrc
 have hst:=run_storeCells_cells (P:=P) b o cs 0 w (by simpa using hc) (by simpa using hf) h1
 cases hq:P.info? elem with
 | none=>simp[hq] at hs
 | some i=>
  have hi:i.size=z:=by simpa[hq] using hs
  simp[Builtin.copy_,run_underlying hu,Builtin.lenOf,Builtin.firstCells,sizeOf,typeInfo,hq,hi,hn,<-hl,hld,hst]
end Go.V

set_option linter.unusedVariables false
set_option linter.unusedSimpArgs false
namespace Go.Proofs
open Go.Shelf Go.RowKit Go.Lib
structure InsLays (P:Program) (ρ:Ren) (z bytes:Nat) (zero:Value):Prop where
 mixed:P.follows .mixedOrders=true
 f22:Bears P (ρ.f 22) (Body2.n22 ρ)
 ov:∀ (w:World) (a b:Addr) (la ca lb cb:Nat),a.block≠b.block->∀ (tA tB:TypeId) (kA kB:Nat),w.shape? a.block=some (tA,kA)->w.shape? b.block=some (tB,kB)->kB≠0->w.frozen? a=false->w.frozen? { block:=a.block,off:=kA }=false →
  (callFunc (ρ.f 29) #[.slice (some a) la ca,.slice (some b) lb cb]).run P w=.ok (.value (.bool false)) w
 t0:P.underlying (ρ.t 0)=some (TypeDesc.tuple #[])
 a0:∀ w,(isAgg (ρ.t 0)).run P w=.ok false w
 z0:∀ w,(Go.sizeOf (ρ.t 0)).run P w=.ok 1 w
 v0:∀ w,(zeroValue (ρ.t 0)).run P w=.ok (Value.tuple #[]) w
 t3:P.underlying (ρ.t 3)=some (TypeDesc.int IntKind.i64)
 a3:∀ w,(isAgg (ρ.t 3)).run P w=.ok false w
 z3:∀ w,(Go.sizeOf (ρ.t 3)).run P w=.ok 1 w
 v3:∀ w,(zeroValue (ρ.t 3)).run P w=.ok (Value.int IntKind.i64 0) w
 t4:P.underlying (ρ.t 4)=some (TypeDesc.bool)
 a4:∀ w,(isAgg (ρ.t 4)).run P w=.ok false w
 z4:∀ w,(Go.sizeOf (ρ.t 4)).run P w=.ok 1 w
 v4:∀ w,(zeroValue (ρ.t 4)).run P w=.ok (Value.bool false) w
 z9:∀ w,(Go.sizeOf (ρ.t 9)).run P w=.ok z w
 t24:P.underlying (ρ.t 24)=some (TypeDesc.slice (ρ.t 9))
 a24:∀ w,(isAgg (ρ.t 24)).run P w=.ok false w
 z24:∀ w,(Go.sizeOf (ρ.t 24)).run P w=.ok 1 w
 v24:∀ w,(zeroValue (ρ.t 24)).run P w=.ok (Value.slice none 0 0) w
 i9:(P.info? (ρ.t 9)).map (fun i=>(i.zero,i.size,i.bytes))=some (some zero,z,bytes)
variable {P:Program} {ρ:Ren} {z bytes:Nat} {zero:Value}
set_option maxHeartbeats 4000000 in
set_option maxRecDepth 100000 in
theorem InsLays.end_(L:InsLays P ρ z bytes zero)(base:Option Addr)(n c vb voff vc:Nat)(w w2:World)(v:Value)(hnil:base=none->n=0)(hnc:n<=c)(hc63:n<=9223372036854775807)
  (hrun:(Builtin.append_ #[(ρ.t 24),(ρ.t 24)] (ρ.t 24) #[.slice base n c,.slice (some ⟨vb,voff,none⟩) 1 vc]).run P w=.ok v w2) :
  Calls P (ρ.f 22) #[.slice base n c,.int .i64 n,.slice (some ⟨vb,voff,none⟩) 1 vc] w fun e w'=>e=.returned v/\w'=w2:=by
 have t0:=L.t0;have a0:=L.a0;have z0:=L.z0;have v0:=L.v0;have t3:=L.t3;have a3:=L.a3;have z3:=L.z3;have v3:=L.v3;have t4:=L.t4;have a4:=L.a4;have z4:=L.z4;have v4:=L.v4;have z9:=L.z9;have t24:=L.t24;have a24:=L.a24;have z24:=L.z24;have v24:=L.v24
 have u0:=run_underlying L.t0;have u3:=run_underlying L.t3;have u4:=run_underlying L.t4;have u24:=run_underlying L.t24
 have mixed:=L.mixed
 obtain⟨nm,hnm,F22⟩:=L.f22
 have hz1:¬((1:Int)=0):=by omega
 go_enter F22,Body2.n22_ntmps ρ
 cases base with
 | none=>
  have h0:=hnil rfl
  subst h0
  go_wp2_with (at_builtin;refine Lib.wpList_append_run _ rfl _ _ _ _ rfl _ _ rfl rfl _ _ hrun ?_)
  go_ret
  exact⟨rfl,rfl⟩
 | some a=>
  obtain⟨ab,ao,asp⟩:=a
  go_wp2_with (at_builtin;refine Lib.wpList_append_run _ rfl _ _ _ _ rfl _ _ rfl rfl _ _ hrun ?_)
  all_goals (go_ret;exact⟨rfl,rfl⟩)
end Go.Proofs

set_option linter.unusedVariables false
set_option linter.unusedSimpArgs false
namespace Go.Proofs
open Go.Shelf Go.RowKit Go.Lib
variable {P:Program} {ρ:Ren} {z bytes:Nat} {zero:Value}
set_option maxHeartbeats 4000000 in
set_option maxRecDepth 100000 in
theorem InsLays.shift(L:InsLays P ρ z bytes zero)(b off n c i vb voff vc:Nat)(cs vs:List Value)(w:World)(hi:i<n)(hroom:n+1<=c)(hc63:n+1<=9223372036854775807)(hvb:vb≠b)(hzp:0<z)
  (hcl:cs.length=n*z) (hvl:vs.length=z)
  (hcs:∀ j v,cs[j]?=some v->w.cell? ⟨b,off+j,none⟩=some v) (hsp:∀ j,j<(n+1)*z->(w.cell? ⟨b,off+j,none⟩).isSome=true) (hfz:∀ j,j<(n+1)*z->w.frozen? ⟨b,off+j,none⟩=false)
  (hvs:∀ j v,vs[j]?=some v->w.cell? ⟨vb,voff+j,none⟩=some v) (h1c:∀ v∈cs,v.oneCell'=true) (h1v:∀ v∈vs,v.oneCell'=true)
  (tA tB:TypeId) (kA kB:Nat) (hsa:w.shape? vb=some (tA,kA)) (hsb:w.shape? b=some (tB,kB)) (hkB:kB≠0) (hfa:w.frozen? ⟨vb,voff,none⟩=false) (hfe:w.frozen? ⟨vb,kA,none⟩=false) :
  Calls P (ρ.f 22) #[.slice (some ⟨b,off,none⟩) n c,.int .i64 i,.slice (some ⟨vb,voff,none⟩) 1 vc] w fun e w'=>
   e=.returned (.slice (some ⟨b,off,none⟩) (n+1) c)/\w'=(w.drew.setCells b (off+(i*z+z)) (cs.drop (i*z))).setCells b (off+i*z) vs:=by
 have t0:=L.t0;have a0:=L.a0;have z0:=L.z0;have v0:=L.v0;have t3:=L.t3;have a3:=L.a3;have z3:=L.z3;have v3:=L.v3;have t4:=L.t4;have a4:=L.a4;have z4:=L.z4;have v4:=L.v4;have z9:=L.z9;have t24:=L.t24;have a24:=L.a24;have z24:=L.z24;have v24:=L.v24
 have u0:=run_underlying L.t0;have u3:=run_underlying L.t3;have u4:=run_underlying L.t4;have u24:=run_underlying L.t24
 have mixed:=L.mixed
 obtain⟨nm,hnm,F22⟩:=L.f22
 have hz1:¬((1:Int)=0):=by omega
 have hz2:¬((i:Int)=(n:Int)):=by omega
 have hsz:(P.info? (ρ.t 9)).map (·.size)=some z:=by
  obtain⟨i0,hi0,h0⟩:=Option.map_eq_some_iff.1 L.i9
  simp only[Prod.mk.injEq] at h0
  rw[hi0];simp[h0.2.1]
 have hov:∀ lb cb,(callFunc (ρ.f 29) #[.slice (some ⟨vb,voff,none⟩) 1 vc,.slice (some ⟨b,off+(i*z+z),none⟩) lb cb]).run P w=.ok (.value (.bool false)) w:=fun lb cb=>
  L.ov w ⟨vb,voff,none⟩ ⟨b,off+(i*z+z),none⟩ 1 vc lb cb hvb tA tB kA kB hsa hsb hkB hfa hfe
 have hin:(n+1)*z=i*z+z+(n-i)*z:=by
  obtain⟨d,rfl⟩:∃ d,n=i+d:=⟨n-i,by omega⟩
  rw[show i+d-i=d by omega,Nat.add_mul,Nat.add_mul,Nat.one_mul];omega
 have hi1:(i+1)*z=i*z+z:=by rw[Nat.add_mul,Nat.one_mul]
 have hn1:n*z=i*z+(n-i)*z:=by
  obtain⟨d,rfl⟩:∃ d,n=i+d:=⟨n-i,by omega⟩
  rw[show i+d-i=d by omega,Nat.add_mul]
 have hdl:(cs.drop (i*z)).length=(n-i)*z:=by rw[List.length_drop,hcl];omega
 have hw1:IntKind.i64.wrap ((i:Int)+1)=(i:Int)+1:=by rw[IntKind.wrap_i64];omega
 have hw2:IntKind.i64.wrap ((n:Int)+1)=(n:Int)+1:=by rw[IntKind.wrap_i64];omega
 have hb1:(0:Int)<=(i:Int)+1:=by omega
 have hin':i<=n:=by omega
 have htn:((i:Int)+1).toNat=i+1:=by omega
 have hb2:¬(c=i+1):=by omega
 have hb3:(i:Int)<=(n:Int)+1:=by omega
 have hb4:¬(c=i):=by omega
 have hcp1:∀ ty dc sc,(Builtin.copy_ #[(ρ.t 24),(ρ.t 24)] ty #[.slice (some ⟨b,off+(i*z+z),none⟩) (n-i) dc,.slice (some ⟨b,off+i*z,none⟩) (n+1-i) sc]).run P w.drew=.ok (goInt (n-i:Nat)) (w.drew.setCells b (off+(i*z+z)) (cs.drop (i*z))):=fun ty dc sc=>
  Go.V.run_copyK w.drew _ _ ty (ρ.t 9) z b (off+(i*z+z)) (n-i) dc ⟨b,off+i*z,none⟩ (n+1-i) sc (n-i) (cs.drop (i*z)) L.t24 hsz (by simp only[Nat.min_def];split<;>omega) hdl
   (fun j v hj=>by rw[Addr.add_lit,Nat.add_assoc];exact hcs (i*z+j) v (by rwa [List.getElem?_drop] at hj))
   (fun j hj=>by rw[Nat.add_assoc];exact hsp _ (by omega)) (fun j hj=>by rw[Nat.add_assoc];exact hfz _ (by omega)) (fun v hv=>h1c v (List.mem_of_mem_drop hv))
 obtain⟨W1,hW1⟩:∃ W1,W1=w.drew.setCells b (off+(i*z+z)) (cs.drop (i*z)):=⟨_,rfl⟩
 have hsp1:∀ k,k<(n+1)*z->(W1.cell? ⟨b,off+k,none⟩).isSome=true:=fun k hk=>by
  rw[hW1,Go.V.isSome_setCells]
  exact hsp k hk
 have hcp2:∀ (W:World),(∀ x,W.cell? x=W1.cell? x)->(∀ x,W.frozen? x=W1.frozen? x)->∀ ty dc,(Builtin.copy_ #[(ρ.t 24),(ρ.t 24)] ty #[.slice (some ⟨b,off+i*z,none⟩) (n+1-i) dc,.slice (some ⟨vb,voff,none⟩) 1 vc]).run P W=.ok (goInt (1:Nat)) (W.setCells b (off+i*z) vs):=fun W hWc hWf ty dc=>
  Go.V.run_copyK W _ _ ty (ρ.t 9) z b (off+i*z) (n+1-i) dc ⟨vb,voff,none⟩ 1 vc 1 vs L.t24 hsz (by simp only[Nat.min_def];split<;>omega) (by rw[hvl,Nat.one_mul])
   (fun j v hj=>by
    rw[Addr.add_lit,hWc,hW1,World.cell?_setCells_out b _ _ _ _ (fun h _=>absurd h hvb)]
    exact hvs j v hj)
   (fun j hj=>by rw[hWc,Nat.add_assoc];exact hsp1 _ (by omega)) (fun j hj=>by rw[hWf,hW1,World.frozen?_setCells,Nat.add_assoc];exact hfz _ (by omega)) h1v
 rw[<-hW1] at hcp1
 go_enter F22,Body2.n22_ntmps ρ
 go_wp2_with (simp only[hov])
 go_region_law_o (refine step_copy_runI rfl _ _ (ρ.t 24) (ρ.t 24) rfl _ _ (by simp[Act.eval,Act.put]) (by simp[Act.eval,Act.put]) (hcp1 _ _ _) ?_)
 go_wp2_with (at_builtin;refine wpList_copy_runI _ rfl _ _ (ρ.t 24) (ρ.t 24) rfl _ _ rfl rfl (hcp2 _ (fun _=>rfl) (fun _=>rfl) _ _) ?_)
 go_ret
 first|exact⟨rfl,rfl⟩|exact⟨rfl,by rw[hW1]⟩
end Go.Proofs

set_option linter.unusedVariables false
set_option linter.unusedSimpArgs false
namespace Go.Proofs
open Go.Shelf Go.RowKit Go.Lib
variable {P:Program} {ρ:Ren} {z bytes:Nat} {zero:Value}
set_option maxHeartbeats 4000000 in
set_option maxRecDepth 100000 in
theorem InsLays.grow(L:InsLays P ρ z bytes zero)(b off n c i vb voff vc:Nat)(cs vs:List Value)(w:World)(hi:i<n)(hnc:n<=c)(hroom:c<n+1)(hbig:(n+1)*bytes<=140737488355328)(hby:0<bytes)(hzp:0<z)(hzz:zero.cells.size=z)
  (hcl:cs.length=n*z) (hvl:vs.length=z)
  (hcs:∀ j v,cs[j]?=some v->w.cell? ⟨b,off+j,none⟩=some v)
  (hvs:∀ j v,vs[j]?=some v->w.cell? ⟨vb,voff+j,none⟩=some v) (h1c:∀ v∈cs,v.oneCell'=true) (h1v:∀ v∈vs,v.oneCell'=true) :
  Calls P (ρ.f 22) #[.slice (some ⟨b,off,none⟩) n c,.int .i64 i,.slice (some ⟨vb,voff,none⟩) 1 vc] w fun e w'=>
   e=.returned (.slice (some ⟨w.heap.size,0,none⟩) (n+1) (grownCap w (n+1) c (ρ.t 9))) ∧
   w'=(((w.alloc (.cells ((cs.take (i*z)).toArray++Builtin.zeroCells zero.cells (n+1-i)++Builtin.zeroCells zero.cells (grownCap w (n+1) c (ρ.t 9)-(n+1))) (ρ.t 9))).drew.setCells w.heap.size (i*z) vs).drew).setCells w.heap.size (i*z+z) (cs.drop (i*z)):=by
 have t0:=L.t0;have a0:=L.a0;have z0:=L.z0;have v0:=L.v0;have t3:=L.t3;have a3:=L.a3;have z3:=L.z3;have v3:=L.v3;have t4:=L.t4;have a4:=L.a4;have z4:=L.z4;have v4:=L.v4;have z9:=L.z9;have t24:=L.t24;have a24:=L.a24;have z24:=L.z24;have v24:=L.v24
 have u0:=run_underlying L.t0;have u3:=run_underlying L.t3;have u4:=run_underlying L.t4;have u24:=run_underlying L.t24
 have mixed:=L.mixed
 obtain⟨nm,hnm,F22⟩:=L.f22
 obtain⟨i0,hi0,h0⟩:=Option.map_eq_some_iff.1 L.i9
 simp only[Prod.mk.injEq] at h0
 obtain⟨hz0,hzs,hzb⟩:=h0
 have hn1z:n+1<=140737488355328:=Nat.le_trans (Nat.le_mul_of_pos_right _ hby) hbig
 have hz1:¬((1:Int)=0):=by omega
 have hz2:¬((i:Int)=(n:Int)):=by omega
 have hz3:(c:Int)<(n:Int)+1:=by omega
 have hin:(n+1)*z=i*z+z+(n-i)*z:=by
  obtain⟨d,rfl⟩:∃ d,n=i+d:=⟨n-i,by omega⟩
  rw[show i+d-i=d by omega,Nat.add_mul,Nat.add_mul,Nat.one_mul];omega
 have hi1:(i+1)*z=i*z+z:=by rw[Nat.add_mul,Nat.one_mul]
 have hn1:n*z=i*z+(n-i)*z:=by
  obtain⟨d,rfl⟩:∃ d,n=i+d:=⟨n-i,by omega⟩
  rw[show i+d-i=d by omega,Nat.add_mul]
 have hzn:0<(n-i)*z:=Nat.mul_pos (by omega) hzp
 have hsz:(P.info? (ρ.t 9)).map (·.size)=some z:=by rw[hi0];simp[hzs]
 have hbw:b<w.heap.size:=block_lt_of_cell (hcs 0 _ (List.getElem?_eq_getElem (by omega)))
 have hvw:vb<w.heap.size:=block_lt_of_cell (hvs 0 _ (List.getElem?_eq_getElem (by omega)))
 have hkk:(n:Int)+1-(i:Int)=((n+1-i:Nat):Int):=by omega
 have hik:i+(n+1-i)=n+1:=by omega
 have hold:(Builtin.firstCells i0.size i (.slice (some ⟨b,off,none⟩) i c)).run P w.drew=.ok (cs.take (i*z)).toArray w.drew:=by
  rw[hzs]
  exact run_firstCells_some w.drew z i ⟨b,off,none⟩ i c (cs.take (i*z)) (by rw[List.length_take];omega) (fun j v hj=>by
   rw[Addr.add_lit]
   rw[List.getElem?_take] at hj
   split at hj
   ·exact hcs j v hj
   ·cases hj)
 have hrz:∀ ty,(Builtin.append_ #[(ρ.t 24),(ρ.t 3)] ty #[.slice (some ⟨b,off,none⟩) i c,.int .i64 ((n:Int)+1-(i:Int))]).run P w =
   .ok (.slice (some ⟨w.heap.size,0,none⟩) (n+1) (grownCap w (n+1) c (ρ.t 9))) (w.drew.alloc (.cells ((cs.take (i*z)).toArray++Builtin.zeroCells zero.cells (n+1-i)++Builtin.zeroCells zero.cells (grownCap w (n+1) c (ρ.t 9)-(n+1))) (ρ.t 9))):=fun ty=>by
  have h:=Lib.run_append_grow_zeros w (ρ.t 24) (ρ.t 3) ty (ρ.t 9) i0 _ .i64 .i64 L.t24 L.t3 hi0 hz0 (some ⟨b,off,none⟩) i c (cs.take (i*z)) hold (n+1-i) (by omega) (by omega) (by omega) (by omega)
   (by rw[hzb];have:=Nat.mul_le_mul_right bytes (show n+1-i<=n+1 by omega);omega) (by rw[hzb,hik];exact growslice_fits hroom hbig)
  rw[hik] at h
  rw[hkk]
  exact h
 obtain⟨G,hG⟩:∃ G,G=grownCap w (n+1) c (ρ.t 9):=⟨_,rfl⟩
 obtain⟨ROW,hROW⟩:∃ ROW:Array Value,ROW=(cs.take (i*z)).toArray++Builtin.zeroCells zero.cells (n+1-i)++Builtin.zeroCells zero.cells (G-(n+1)):=⟨_,rfl⟩
 rw[<-hG] at hrz ⊢
 rw[<-hROW] at hrz ⊢
 have hRl:(n+1)*z<=ROW.size:=by
  rw[hROW]
  simp only[Array.size_append,List.size_toArray,List.length_take,Go.V.zeroCells_size,hzz,hcl]
  have:(n+1-i)*z=z+(n-i)*z:=by rw[show n+1-i=1+(n-i) by omega,Nat.add_mul,Nat.one_mul]
  omega
 obtain⟨W1,hW1⟩:∃ W1,W1=w.drew.alloc (.cells ROW (ρ.t 9)):=⟨_,rfl⟩
 rw[<-hW1] at hrz
 have hN:∀ j,j<(n+1)*z->(W1.cell? ⟨w.heap.size,j,none⟩).isSome=true:=fun j hj=>by
  rw[hW1,World.cell?_alloc_at (w:=w.drew) ROW _ w.heap.size j rfl,Array.getElem?_eq_getElem (by omega)];rfl
 have hNf:∀ j,W1.frozen? ⟨w.heap.size,j,none⟩=false:=fun j=>by rw[hW1];exact World.frozen?_alloc_at (w:=w.drew) ROW _ w.heap.size j rfl
 have hOb:∀ j v,w.cell? ⟨b,j,none⟩=some v->W1.cell? ⟨b,j,none⟩=some v:=fun j v h=>by rw[hW1,World.cell?_alloc_past (w:=w.drew) _ b j hbw];exact h
 have hOv:∀ j v,w.cell? ⟨vb,j,none⟩=some v->W1.cell? ⟨vb,j,none⟩=some v:=fun j v h=>by rw[hW1,World.cell?_alloc_past (w:=w.drew) _ vb j hvw];exact h
 have hcpA:∀ (W:World),(∀ x,W.cell? x=W1.cell? x)->(∀ x,W.frozen? x=W1.frozen? x)->∀ ty dc,(Builtin.copy_ #[(ρ.t 24),(ρ.t 24)] ty #[.slice (some ⟨w.heap.size,i*z,none⟩) (n+1-i) dc,.slice (some ⟨vb,voff,none⟩) 1 vc]).run P W=.ok (goInt (1:Nat)) (W.setCells w.heap.size (i*z) vs):=fun W hWc hWf ty dc=>
  Go.V.run_copyK W _ _ ty (ρ.t 9) z w.heap.size (i*z) (n+1-i) dc ⟨vb,voff,none⟩ 1 vc 1 vs L.t24 hsz (by simp only[Nat.min_def];split<;>omega) (by rw[hvl,Nat.one_mul])
   (fun j v hj=>by rw[Addr.add_lit,hWc];exact hOv _ v (hvs j v hj))
   (fun j hj=>by rw[hWc];exact hN _ (by omega)) (fun j hj=>by rw[hWf];exact hNf _) h1v
 have hGn:n+1<=G:=by rw[hG];exact grownCap_ge w _ _ _
 have hG63:G<=9223372036854775807:=by
  have:=grownCap_le_maxLen w (n+1) c (ρ.t 9) (by unfold maxLen;omega)
  rw[<-hG] at this
  unfold maxLen at this
  omega
 have hGi:¬(G=i):=by omega
 have hGim:¬(G=i+1):=by omega
 have hci:¬(c=i):=by omega
 have hbN:b≠w.heap.size:=by omega
 have hdl:(cs.drop (i*z)).length=(n-i)*z:=by rw[List.length_drop,hcl];omega
 have hcpB:∀ (W:World),(∀ x,W.cell? x=(W1.setCells w.heap.size (i*z) vs).cell? x)->(∀ x,W.frozen? x=(W1.setCells w.heap.size (i*z) vs).frozen? x)->∀ ty dc sc,(Builtin.copy_ #[(ρ.t 24),(ρ.t 24)] ty #[.slice (some ⟨w.heap.size,i*z+z,none⟩) (n-i) dc,.slice (some ⟨b,off+i*z,none⟩) (n-i) sc]).run P W=.ok (goInt (n-i:Nat)) (W.setCells w.heap.size (i*z+z) (cs.drop (i*z))):=fun W hWc hWf ty dc sc=>
  Go.V.run_copyK W _ _ ty (ρ.t 9) z w.heap.size (i*z+z) (n-i) dc ⟨b,off+i*z,none⟩ (n-i) sc (n-i) (cs.drop (i*z)) L.t24 hsz (by simp only[Nat.min_def];split<;>omega) hdl
   (fun j v hj=>by
    rw[Addr.add_lit,hWc,World.cell?_setCells_out _ _ _ _ _ (fun h _=>absurd h hbN),Nat.add_assoc]
    exact hOb _ v (hcs (i*z+j) v (by rwa [List.getElem?_drop] at hj)))
   (fun j hj=>by rw[hWc,Go.V.isSome_setCells];exact hN _ (by omega))
   (fun j hj=>by rw[hWf,World.frozen?_setCells];exact hNf _) (fun v hv=>h1c v (List.mem_of_mem_drop hv))
 subst hW1
 have hE1:∀ x,((w.alloc (.cells ROW (ρ.t 9))).drew).cell? x=(w.drew.alloc (.cells ROW (ρ.t 9))).cell? x:=fun x=>rfl
 have hE2:∀ x,((w.alloc (.cells ROW (ρ.t 9))).drew).frozen? x=(w.drew.alloc (.cells ROW (ρ.t 9))).frozen? x:=fun x=>rfl
 have hF1:∀ x,(((w.alloc (.cells ROW (ρ.t 9))).drew.setCells w.heap.size (i*z) vs).drew).cell? x=((w.drew.alloc (.cells ROW (ρ.t 9))).setCells w.heap.size (i*z) vs).cell? x:=fun x=>rfl
 have hF2:∀ x,(((w.alloc (.cells ROW (ρ.t 9))).drew.setCells w.heap.size (i*z) vs).drew).frozen? x=((w.drew.alloc (.cells ROW (ρ.t 9))).setCells w.heap.size (i*z) vs).frozen? x:=fun x=>rfl
 have hw1:IntKind.i64.wrap ((i:Int)+1)=(i:Int)+1:=by rw[IntKind.wrap_i64];omega
 have hb1:(0:Int)<=(i:Int)+1:=by omega
 have hin':i<=n:=by omega
 have htn:((i:Int)+1).toNat=i+1:=by omega
 have hb3:(i:Int)<=(n:Int):=by omega
 clear hkk hik hold hROW hG hRl
 go_enter F22,Body2.n22_ntmps ρ
 go_wp2_with (first
  | (at_builtin;refine Lib.wpList_append_run _ rfl _ _ _ _ rfl _ _ rfl rfl _ _ (hrz _) ?_)
  | (at_builtin;refine wpList_copy_runI _ rfl _ _ (ρ.t 24) (ρ.t 24) rfl _ _ rfl rfl (hcpA _ hE1 hE2 _ _) ?_)
  | (at_builtin;refine wpList_copy_runI _ rfl _ _ (ρ.t 24) (ρ.t 24) rfl _ _ rfl rfl (hcpB _ (fun _=>rfl) (fun _=>rfl) _ _ _) ?_))
 go_region_law_o (refine step_copy_runI rfl _ _ (ρ.t 24) (ρ.t 24) rfl (.slice (some ⟨w.heap.size,i*z+z,none⟩) (n-i) (G-(i+1))) (.slice (some ⟨b,off+i*z,none⟩) (n-i) (c-i)) (by simp[Act.eval,Act.put]) (by simp[Act.eval,Act.put]) (hcpB _ hF1 hF2 (ρ.t 3) (G-(i+1)) (c-i)) ?_)
 go_wp2
 go_ret
 exact⟨rfl,rfl⟩
end Go.Proofs

set_option linter.unusedVariables false
set_option linter.unusedSimpArgs false
namespace Go.V
open Go Go.Proofs Go.Shelf
variable {U:Nat->Type}
section
variable {E:Env U}
theorem ins_fin(ok:EnvOk2 E){c:Nat}{l vs res:List (U c)}{w w':World}{St:Ck U->Nat->Prop}{ι:Nat->Option Value}(hH:HeapR E (nthO [.lst c l,.lst c vs]) w ι St)(hout:∀ m,2<=m->ι m=none){K:A U->List (AObj U)->Prop}
  (hK:K (.own 2) [.dead,.dead,.lst c res]) {B off C n:Nat} {ds:List Value} (hn:n=res.length) (hrc:RC E w St ι (res.map (E.enc c)) ds []) (hr:w'.rangeAt B off ds) (hT:thereA (E.ty c≠.int .u8) w' B off (C*E.sz c)) (hC:res.length<=C) (h0:0<res.length)
  (hB:OwnH (nthO [.lst c l,.lst c vs]) ι B\/w.heap.size<=B) (hBs:B<w'.heap.size) (hfr:Fr (fun b=>OwnH (nthO [.lst c l,.lst c vs]) ι b) w w') :
  ∃ r v objs' ι' St',Ending.returned (.slice (some ⟨B,off,none⟩) n C)=.returned v/\ResP E w St (OwnH (nthO [.lst c l,.lst c vs]) ι) ι 2 K v w' r objs' ι' St':=by
 subst hn
 obtain⟨C,rfl⟩:∃ C',C=C'+1:=⟨C-1,by omega⟩
 have hnA:∀ b,OwnH (nthO [.lst c l,.lst c vs]) ι b->¬An St b:=fun b ⟨m,h1,h2⟩=>hH.apt m b h1 h2
 have hsame:∀ b,An St b->w'.heap[b]?=w.heap[b]?:=fun b hb=>hfr.same b (hH.stb b hb) fun e=>hnA b e hb
 let ι':Nat->Option Value:=upd ι 2 (some (.slice (some ⟨B,off,none⟩) res.length (C+1)))
 have hx:Ext w St ι w' St ι':=⟨fun _ _ h=>h,fun m v h=>by
  by_cases e:m=2
  ·subst e;rw[hout 2 (Nat.le_refl _)] at h;cases h
  ·show upd ι 2 _ m=_;rw[upd_ne _ _ e];exact h,fun b hb=>hsame b hb.an,hfr.size⟩
 have hBA:¬An St B:=by
  rcases hB with h|h
  ·exact hnA B h
  ·intro hb;have:=hH.stb B hb;omega
 have live:∀ m,isLive (nthO [(.dead:AObj U),.dead,.lst c res] m)=true->m=2:=by
  intro m hm
  match m,hm with
  | 0,hm=>simp[nthO,isLive] at hm
  | 1,hm=>simp[nthO,isLive] at hm
  | 2,_=>rfl
  | m+3,hm=>simp[nthO,isLive] at hm
 have h2:ι' 2=some (.slice (some ⟨B,off,none⟩) res.length (C+1)):=upd_same _ _ _
 refine⟨.own 2,_,[.dead,.dead,.lst c res],ι',St,rfl,hK,?_,⟨fun m=>?_,fun m m' b h1 h3 _ _=>by rw[live m h1,live m' h3],fun b hb=>Nat.lt_of_lt_of_le (hH.stb b hb) hfr.size,fun m b h1 h3=>?_,?_⟩,fun m hm=>?_,fun m hm=>?_,hfr.mono fun b _ h=>.inl h,fun b ⟨m,h1,h3⟩=>?_,fun g b h=>.inl h,fun _ _ _ h=>h⟩
 ·exact RT.of_rv (.mk1 (.own h2 .nil) rfl rfl)
 ·match m with
  | 0=>exact trivial
  | 1=>exact trivial
  | 2=>
   show RO E w' St ι' (.lst c res) (ι' 2)
   rw[h2]
   exact RO.lst_of (by omega) rfl (hrc.ext hx) hr hT hC hBs
  | m+3=>exact trivial
 ·obtain rfl:=live m h1
  rw[h2] at h3
  have:B=b:=by simpa[blkO,blk,base] using h3
  subst this
  exact hBA
 ·exact hH.sup.ext hx hH.sup.up hH.sup.cls (fun _ _ _ h=>h) fun b ⟨cc,y,hb⟩=>hsame b ⟨_,hb⟩
 ·show upd ι 2 _ m=none
  rw[upd_ne _ _ (by simp at hm;omega)]
  exact hout m (by simp at hm;omega)
 ·show upd ι 2 _ m=ι m
  rw[upd_ne _ _ (by omega)]
 ·obtain rfl:=live m h1
  rw[h2] at h3
  have:B=b:=by simpa[blkO,blk,base] using h3
  subst this
  exact hB
theorem ins_rc(ok:EnvOk2 E){c:Nat}{l vs:List (U c)}{w:World}{St:Ck U->Nat->Prop}{ι:Nat->Option Value}{ds dv:List Value}{n:Nat}(hn:n<=l.length)(h:RC E w St ι (l.map (E.enc c)) ds [])(hv:RC E w St ι (vs.map (E.enc c)) dv []) :
  RC E w St ι ((insAt (n:Int) l vs).map (E.enc c)) (ds.take (n*E.sz c)++(dv++ds.drop (n*E.sz c))) []:=by
 have h1:=h
 rw[<-List.take_append_drop n l,List.map_append] at h1
 obtain⟨c1,c2,b1,b2,rfl,hb,h2,h3⟩:=h1.split
 obtain⟨rfl,rfl⟩:b1=[]/\b2=[]:=by simpa using hb.symm
 have l1:=h2.length ok.toEnvOk
 rw[sizes_enc ok.toEnvOk,List.length_take,Nat.min_eq_left hn] at l1
 rw[<-l1,List.take_left,List.drop_left]
 unfold insAt
 rw[Int.toNat_natCast,List.map_append,List.map_append]
 exact RC.append h2 (RC.append hv h3)
theorem junk{w:World}{B o:Nat}(z:Nat)(h:∀ j,j<z->(w.cell? ⟨B,o+j,none⟩).isSome=true):∃ ds:List Value,ds.length=z/\w.rangeAt B o ds:=by
 refine⟨(List.range z).map fun j=>(w.cell? ⟨B,o+j,none⟩).getD undef,by simp,fun j v hj=>?_⟩
 have hj2:j<z:=by
  rcases Nat.lt_or_ge j z with g|g
  ·exact g
  ·rw[List.getElem?_eq_none (by simpa using g)] at hj;cases hj
 obtain⟨x,hx⟩:=Option.isSome_iff_exists.1 (h j hj2)
 rw[List.getElem?_map,List.getElem?_range hj2] at hj
 simp only[Option.map_some,hx,Option.getD_some,Option.some.injEq] at hj
 rw[hx,hj]
theorem rangeAt_app{w:World}{B o:Nat}{a b:List Value}(h1:w.rangeAt B o a)(h2:w.rangeAt B (o+a.length) b):w.rangeAt B o (a++b):=by
 intro j v hj
 by_cases hl:j<a.length
 ·rw[List.getElem?_append_left hl] at hj;exact h1 j v hj
 ·rw[List.getElem?_append_right (by omega)] at hj
  have:=h2 _ v hj
  rwa [show o+a.length+(j-a.length)=o+j by omega] at this
theorem ins_sound(ok:EnvOk2 E){ρ:Ren}{zero:Value}{c:Nat}(hc:ρ.t 9=c)(L:InsLays E.P ρ (E.sz c) (E.by' c) zero)(hts:E.ty (ρ.t 24)=.sl c)(hne:E.ty c≠.no)(hnb:E.ty c≠.int .u8)(hby:E.by' c≠0)(hz:0<E.sz c)(hzz:zero.cells.size=E.sz c)
  (hpr:memN (ρ.f 22) E.procs=true) (hblt:Nat.blt (ρ.f 22) 1000000=true) {l vs:List (U c)} {i:Int} (hi:0<=i/\i<=(l.length:Int)) (hv1:vs.length=1) (hroom:room (l.length+1) (E.by' c)) {K:A U->List (AObj U)->Prop}
  (hK:K (.own 2) [.dead,.dead,.lst c (insAt i l vs)]):RowSound E (ρ.f 22) [.own 0,.int .i64 i,.own 1] [.lst c l,.lst c vs] K:=by
 obtain⟨nm,hnm,F22⟩:=L.f22
 refine RowSound.of_fn hblt fun _=>⟨fun hp=>(by rw[hpr] at hp;cases hp),fun _=>⟨⟨_,F22,rfl,hnm⟩,fun w St ι us hus hH hout=>?_⟩⟩
 obtain⟨n,rfl⟩:=Int.eq_ofNat_of_zero_le hi.1
 have hnl:n<=l.length:=by omega
 obtain⟨us⟩:=us
 obtain⟨a0,L0,C0,a1,L1,C1,rfl,hι0,hι1⟩:∃ a0 L0 C0 a1 L1 C1,us=[.slice a0 L0 C0,.int .i64 (n:Int),.slice a1 L1 C1]/\ι 0=some (.slice a0 L0 C0)/\ι 1=some (.slice a1 L1 C1):=by
  cases us with
  | nil=>exact hus.elim
  | cons u0 us=>
  cases us with
  | nil=>exact hus.2.elim
  | cons u1 us=>
  cases us with
  | nil=>exact hus.2.2.elim
  | cons u2 us=>
  cases us with
  | cons _ _=>exact hus.2.2.2.elim
  | nil=>
   obtain⟨a0,L0,C0,rfl,h0⟩:=RV.own_inv (hus.1.resolve_left (by intro e;cases e))
   have h1:=RV.int_inv (hus.2.1.resolve_left (by intro e;cases e))
   obtain⟨a1,L1,C1,rfl,h2⟩:=RV.own_inv (hus.2.2.1.resolve_left (by intro e;cases e))
   subst h1
   exact⟨a0,L0,C0,a1,L1,C1,rfl,h0,h2⟩
 have r0:RO E w St ι (.lst c l) (ι 0):=hH.obj 0
 have r1:RO E w St ι (.lst c vs) (ι 1):=hH.obj 1
 rcases r1 with ⟨-,hv0⟩|⟨B1,off1,D1,dv,e1,q1,q2,q3,q4,q5⟩
 ·rw[hv0] at hv1;cases hv1
 rw[hι1] at e1
 simp only[Option.some.injEq,Value.slice.injEq] at e1
 obtain⟨rfl,rfl,rfl⟩:=e1
 have hdv:=q1.length ok.toEnvOk
 rw[sizes_enc ok.toEnvOk,hv1,Nat.one_mul] at hdv
 have hkt:E.P.underlying (ρ.t 24)=some (.slice c):=under_sl ok hts
 have hy:SrcOk E w St ι c (ρ.t 24) (.slice (some ⟨B1,off1,.none⟩) vs.length (D1+1)) vs:=src_cells ok hkt q1 q2
 rw[hv1] at hι1 hy ⊢
 have hres:(insAt (n:Int) l vs).length=l.length+1:=by
  unfold insAt
  rw[List.length_append,List.length_append,List.length_take,List.length_drop,Int.toNat_natCast,hv1];omega
 have hb1:blkO (ι 1)=some B1:=by rw[hι1];rfl
 have endr:∀ (lx:List (U c)) (h:n=l.length),insAt (n:Int) l vs=l++vs:=by
  intro _ h
  unfold insAt
  rw[Int.toNat_natCast,h,List.take_length,List.drop_length,List.append_nil]
 have hroom1:room (l.length+vs.length) (E.by' c):=by rw[hv1];exact hroom
 rcases r0 with ⟨⟨a9,e0⟩,hl0⟩|⟨B,off,D,ds,e0,p1,p2,p3,p4,p5⟩
 ·rw[hι0] at e0
  simp only[Option.some.injEq,Value.slice.injEq] at e0
  obtain⟨rfl,rfl,rfl⟩:=e0
  have hl0:l=[]:=hl0
  subst hl0
  obtain rfl:n=0:=by simpa using hnl
  obtain⟨C,w',ds',g1,g2,g3,g4,g5,g6,g7⟩:=append_grow_ok (t:=ρ.t 24) (tx:=ρ.t 24) (rt:=ρ.t 24) ok hts hne hby (a':=a0) (cap:=0) (lx:=([]:List (U c))) (y:=.slice (some ⟨B1,off1,.none⟩) 1 (D1+1)) (l:=vs) (src_empty hkt a0 0) hy (by rw[hv1];exact Nat.succ_pos _) (by simpa using hroom1)
  refine (L.end_ a0 0 0 B1 off1 (D1+1) w w' _ (fun _=>rfl) (Nat.le_refl _) (by decide) g1).mono ?_
  rintro e w2 ⟨rfl,rfl⟩
  refine ins_fin ok hH hout hK (ds:=ds') (by rw[hres,hv1]) (by rw[endr [] rfl];exact g4) g5 g6 (by rw[hres];simpa[hv1] using g7) (by rw[hres];omega) (.inr (Nat.le_refl _)) (by omega) (g2.mono fun _ _ h=>h.elim)
 ·rw[hι0] at e0
  simp only[Option.some.injEq,Value.slice.injEq] at e0
  obtain⟨rfl,rfl,rfl⟩:=e0
  have hb0:blkO (ι 0)=some B:=by rw[hι0];rfl
  have hOB:OwnH (nthO [.lst c l,.lst c vs]) ι B:=⟨0,rfl,hb0⟩
  have hBB:B1≠B:=by
   intro e
   subst e
   have:=hH.dis 0 1 B1 rfl rfl hb0 hb1
   cases this
  have hds:=p1.length ok.toEnvOk
  rw[sizes_enc ok.toEnvOk] at hds
  have hx:SrcOk E w St ι c (ρ.t 24) (.slice (some ⟨B,off,.none⟩) l.length (D+1)) l:=src_cells ok hkt p1 p2
  have hrc:=ins_rc ok hnl p1 q1
  have hbig:(l.length+1)*E.by' c<=140737488351232:=hroom
  have hn48:l.length+1<=140737488351232:=Nat.le_trans (Nat.le_mul_of_pos_right _ (Nat.pos_of_ne_zero hby)) hbig
  by_cases hend:n=l.length
  ·subst hend
   rw[endr [] rfl] at hrc
   by_cases hcap:l.length+vs.length<=D+1
   ·obtain⟨news,g1,g2,g3⟩:=append_room_ok (t:=ρ.t 24) (tx:=ρ.t 24) (rt:=ρ.t 24) ok hts hne p1 p2 p3 hy hcap
    refine (L.end_ (some ⟨B,off,none⟩) l.length (D+1) B1 off1 (D1+1) w _ _ (fun h=>by cases h) p4 (by omega) g1).mono ?_
    rintro e w2 ⟨rfl,rfl⟩
    exact ins_fin ok hH hout hK (by rw[hres,hv1]) (by rw[endr [] rfl];exact g2) g3 (thereA_setCells p3) (by rw[hres];omega) (by rw[hres];omega) (.inl hOB) (by rw[size_setCells];exact p5) (Fr.setCells w B _ _ hOB)
   ·obtain⟨C,w',ds',g1,g2,g3,g4,g5,g6,g7⟩:=append_grow_ok (t:=ρ.t 24) (tx:=ρ.t 24) (rt:=ρ.t 24) ok hts hne hby hx hy (by omega) hroom1
    refine (L.end_ (some ⟨B,off,none⟩) l.length (D+1) B1 off1 (D1+1) w w' _ (fun h=>by cases h) p4 (by omega) g1).mono ?_
    rintro e w2 ⟨rfl,rfl⟩
    exact ins_fin ok hH hout hK (by rw[hres,hv1]) (by rw[endr [] rfl];exact g4) g5 g6 (by rw[hres];omega) (by rw[hres];omega) (.inr (Nat.le_refl _)) (by omega) (g2.mono fun _ _ h=>h.elim)
  ·have hlt:n<l.length:=by omega
   have hz1:(n+1)*E.sz c=n*E.sz c+E.sz c:=by rw[Nat.add_mul,Nat.one_mul]
   have hl1:(l.length+1)*E.sz c=l.length*E.sz c+E.sz c:=by rw[Nat.add_mul,Nat.one_mul]
   have hle:(n+1)*E.sz c<=l.length*E.sz c:=Nat.mul_le_mul_right _ (by omega)
   have hcells:∀ (v:Value) (j:Nat),ds[j]?=some v->w.cell? ⟨B,off+j,none⟩=some v:=fun v j h=>p2 j v h
   have hcellv:∀ (j:Nat) (v:Value),dv[j]?=some v->w.cell? ⟨B1,off1+j,none⟩=some v:=fun j v h=>q2 j v h
   by_cases hcap:l.length+1<=D+1
   ·have hle2:(l.length+1)*E.sz c<=(D+1)*E.sz c:=Nat.mul_le_mul_right _ hcap
    obtain⟨v0,hv0⟩:∃ v,w.cell? ⟨B1,off1+0,none⟩=some v:=Option.isSome_iff_exists.1 (q3.1 0 (Nat.mul_pos (Nat.succ_pos _) hz)).1
    obtain⟨v1,hv1'⟩:∃ v,w.cell? ⟨B,off+0,none⟩=some v:=Option.isSome_iff_exists.1 (p3.1 0 (Nat.mul_pos (Nat.succ_pos _) hz)).1
    obtain⟨tA,kA,s1,s2,-⟩:=World.shape?_of_cell? hv0
    obtain⟨tB,kB,s3,s4,-⟩:=World.shape?_of_cell? hv1'
    have hfr1:=q3.2 hnb
    have s2':off1+0<kA:=s2
    refine (L.shift B off l.length (D+1) n B1 off1 (D1+1) ds dv w hlt hcap (by omega) hBB hz hds hdv (fun j v h=>hcells v j h) (fun j hj=>(p3.1 j (by omega)).1) (fun j hj=>(p3.1 j (by omega)).2) hcellv p1.oneCell q1.oneCell
     tA tB kA kB s1 s3 (by have:off+0<kB:=s4;omega) (by have:=hfr1 0;simpa using this) (by have:=hfr1 (kA-off1);rwa [show off1+(kA-off1)=kA by omega] at this)).mono ?_
    rintro e w2 ⟨rfl,rfl⟩
    obtain⟨jk,k1,k2⟩:=junk (w:=w) (B:=B) (o:=off+ds.length) (E.sz c) (fun j hj=>by
     have:=(p3.1 (ds.length+j) (by omega)).1
     rwa [<-Nat.add_assoc] at this)
    have base:=rangeAt_app p2 k2
    have t1:=range_splice (w:=w.drew) (B:=B) (off:=off) (k:=n*E.sz c+E.sz c) (cs:=ds++jk) (ds:=ds.drop (n*E.sz c)) base (by rw[List.length_drop,List.length_append];omega)
    have t2:=range_splice (B:=B) (off:=off) (k:=n*E.sz c) (ds:=dv) t1 (by simp only[List.length_append,List.length_take,List.length_drop];omega)
    have hfin:(ds++jk).take (n*E.sz c+E.sz c)++(ds.drop (n*E.sz c)++(ds++jk).drop (n*E.sz c+E.sz c+(ds.drop (n*E.sz c)).length))=ds.take (n*E.sz c)++((ds.drop (n*E.sz c)).take (E.sz c)++ds.drop (n*E.sz c)):=by
     have e0:(ds++jk).drop (n*E.sz c+E.sz c+(ds.drop (n*E.sz c)).length)=[]:=List.drop_of_length_le (by rw[List.length_append,List.length_drop];omega)
     rw[e0,List.append_nil,List.take_append_of_le_length (by omega),<-List.append_assoc]
     congr 1
     rw[List.take_add]
    rw[hfin] at t2
    have hfin2:(ds.take (n*E.sz c)++((ds.drop (n*E.sz c)).take (E.sz c)++ds.drop (n*E.sz c))).take (n*E.sz c)++(dv++(ds.take (n*E.sz c)++((ds.drop (n*E.sz c)).take (E.sz c)++ds.drop (n*E.sz c))).drop (n*E.sz c+dv.length))=ds.take (n*E.sz c)++(dv++ds.drop (n*E.sz c)):=by
     have e1:(ds.take (n*E.sz c)).length=n*E.sz c:=by rw[List.length_take];omega
     have e2:((ds.drop (n*E.sz c)).take (E.sz c)).length=E.sz c:=by rw[List.length_take,List.length_drop];omega
     rw[List.take_left' e1,hdv]
     congr 2
     rw[<-List.append_assoc,List.drop_left' (by rw[List.length_append,e1,e2])]
    rw[hfin2] at t2
    exact ins_fin ok hH hout hK (by rw[hres]) hrc t2 (thereA_setCells (thereA_setCells (thereA_of_heap (w:=w) rfl p3))) (by rw[hres];omega) (by rw[hres];omega) (.inl hOB) (by rw[size_setCells,size_setCells];exact p5)
     (((Fr.drew _ w).trans (Fr.setCells _ B _ _ hOB)).trans (Fr.setCells _ B _ _ hOB))
   ·subst hc
    refine (L.grow B off l.length (D+1) n B1 off1 (D1+1) ds dv w hlt p4 (by omega) (by omega) (Nat.pos_of_ne_zero hby) hz hzz hds hdv (fun j v h=>hcells v j h) hcellv p1.oneCell q1.oneCell).mono ?_
    rintro e w2 ⟨rfl,rfl⟩
    have hG:l.length+1<=grownCap w (l.length+1) (D+1) (ρ.t 9):=grownCap_ge w _ _ _
    generalize grownCap w (l.length+1) (D+1) (ρ.t 9)=G at *
    generalize hROW:((ds.take (n*E.sz (ρ.t 9))).toArray++Builtin.zeroCells zero.cells (l.length+1-n)++Builtin.zeroCells zero.cells (G-(l.length+1)))=ROW
    have hRsz:ROW.size=G*E.sz (ρ.t 9):=by
     rw[<-hROW]
     simp only[Array.size_append,List.size_toArray,List.length_take,zeroCells_size,hzz]
     have e1:min (n*E.sz (ρ.t 9)) ds.length=n*E.sz (ρ.t 9):=Nat.min_eq_left (by omega)
     rw[e1,<-Nat.add_mul,<-Nat.add_mul]
     congr 1
     omega
    have hRtk:ROW.toList.take (n*E.sz (ρ.t 9))=ds.take (n*E.sz (ρ.t 9)):=by
     rw[<-hROW]
     simp only[Array.toList_append,List.toList_toArray,List.append_assoc]
     rw[List.take_left' (by rw[List.length_take];omega)]
    have hGz:(l.length+1)*E.sz (ρ.t 9)<=G*E.sz (ρ.t 9):=Nat.mul_le_mul_right _ hG
    have base0:=rangeAt_sub (rangeAt_alloc w ROW (ρ.t 9)) 0 ((l.length+1)*E.sz (ρ.t 9))
    rw[List.drop_zero,Nat.zero_add] at base0
    generalize hR:ROW.toList.take ((l.length+1)*E.sz (ρ.t 9))=R at base0
    have hRl:R.length=(l.length+1)*E.sz (ρ.t 9):=by rw[<-hR,List.length_take,show ROW.toList.length=ROW.size from Array.length_toList,hRsz];exact Nat.min_eq_left hGz
    have hRt:R.take (n*E.sz (ρ.t 9))=ds.take (n*E.sz (ρ.t 9)):=by rw[<-hR,List.take_take,Nat.min_eq_left (by omega)];exact hRtk
    have base1:((w.alloc (.cells ROW (ρ.t 9))).drew).rangeAt w.heap.size 0 R:=base0
    have t1:=range_splice (B:=w.heap.size) (off:=0) (k:=n*E.sz (ρ.t 9)) (ds:=dv) base1 (by omega)
    have t1':((((w.alloc (.cells ROW (ρ.t 9))).drew).setCells w.heap.size (0+n*E.sz (ρ.t 9)) dv).drew).rangeAt w.heap.size 0 (R.take (n*E.sz (ρ.t 9))++(dv++R.drop (n*E.sz (ρ.t 9)+dv.length))):=t1
    have t2:=range_splice (B:=w.heap.size) (off:=0) (k:=n*E.sz (ρ.t 9)+E.sz (ρ.t 9)) (ds:=ds.drop (n*E.sz (ρ.t 9))) t1' (by simp only[List.length_append,List.length_take,List.length_drop];omega)
    simp only[Nat.zero_add] at t2
    have hfin:(R.take (n*E.sz (ρ.t 9))++(dv++R.drop (n*E.sz (ρ.t 9)+dv.length))).take (n*E.sz (ρ.t 9)+E.sz (ρ.t 9))++(ds.drop (n*E.sz (ρ.t 9))++(R.take (n*E.sz (ρ.t 9))++(dv++R.drop (n*E.sz (ρ.t 9)+dv.length))).drop (n*E.sz (ρ.t 9)+E.sz (ρ.t 9)+(ds.drop (n*E.sz (ρ.t 9))).length))=ds.take (n*E.sz (ρ.t 9))++(dv++ds.drop (n*E.sz (ρ.t 9))):=by
     have e1:(R.take (n*E.sz (ρ.t 9))).length=n*E.sz (ρ.t 9):=by rw[List.length_take];omega
     have e0:(R.take (n*E.sz (ρ.t 9))++(dv++R.drop (n*E.sz (ρ.t 9)+dv.length))).drop (n*E.sz (ρ.t 9)+E.sz (ρ.t 9)+(ds.drop (n*E.sz (ρ.t 9))).length)=[]:=List.drop_of_length_le (by simp only[List.length_append,List.length_take,List.length_drop];omega)
     rw[e0,List.append_nil,<-List.append_assoc,List.take_left' (by rw[List.length_append,e1,hdv]),hRt,List.append_assoc]
    rw[hfin] at t2
    have hTA:thereA (E.ty (ρ.t 9)≠.int .u8) (w.alloc (.cells ROW (ρ.t 9))) w.heap.size 0 (G*E.sz (ρ.t 9)):=by rw[<-hRsz];exact there_alloc w ROW (ρ.t 9)
    have hnO:∀ (W:World) (o:Nat) (xs:List Value),Fr (fun b=>w.heap.size<=b) W (W.setCells w.heap.size o xs):=fun W o xs=>Fr.setCells W _ _ _ (Nat.le_refl _)
    have hF:Fr (fun b=>w.heap.size<=b) w (((((w.alloc (.cells ROW (ρ.t 9))).drew).setCells w.heap.size (n*E.sz (ρ.t 9)) dv).drew).setCells w.heap.size (n*E.sz (ρ.t 9)+E.sz (ρ.t 9)) (ds.drop (n*E.sz (ρ.t 9)))):=
     ((((Fr.alloc _ w _).trans (Fr.drew _ _)).trans (hnO _ _ _)).trans (Fr.drew _ _)).trans (hnO _ _ _)
    exact ins_fin ok hH hout hK (by rw[hres]) hrc t2 (thereA_setCells (thereA_of_heap (w:=((w.alloc (.cells ROW (ρ.t 9))).drew).setCells w.heap.size (n*E.sz (ρ.t 9)) dv) rfl (thereA_setCells (thereA_of_heap (w:=w.alloc (.cells ROW (ρ.t 9))) rfl hTA)))) (by rw[hres];omega) (by rw[hres];omega) (.inr (Nat.le_refl _))
     (by rw[size_setCells];show w.heap.size<(((w.alloc (.cells ROW (ρ.t 9))).drew).setCells w.heap.size (n*E.sz (ρ.t 9)) dv).heap.size;rw[size_setCells];show w.heap.size<(w.alloc _).heap.size;simp)
     (hF.mono fun b hb h=>absurd h (by omega))
def isU8:Ty->Bool
 | .int .u8=>true
 | _=>false
theorem ins_row(ok:EnvOk2 E){ρ:Ren}{zero:Value}{c:Nat}(hc:ρ.t 9=c)(L:InsLays E.P ρ (E.sz c) (E.by' c) zero)(hts:E.ty (ρ.t 24)=.sl c)(hne:isNo (E.ty c)=false)(hnb:isU8 (E.ty c)=false)(hby:Nat.blt 0 (E.by' c)=true)(hz:Nat.blt 0 (E.sz c)=true)(hzz:Nat.beq zero.cells.size (E.sz c)=true)
  (hpr:memN (ρ.f 22) E.procs=true) (hblt:Nat.blt (ρ.f 22) 1000000=true) {l vs:List (U c)} {i:Int} {K:A U->List (AObj U)->Prop}
  (h:((0<=i/\i<=((List.length l:Nat):Int))/\List.length vs=1/\room (List.length l+1) (E.by' c))/\K (.own 2) [.dead,.dead,.lst c (insAt i l vs)]):RowSound E (ρ.f 22) [.own 0,.int .i64 i,.own 1] [.lst c l,.lst c vs] K:=
 ins_sound ok hc L hts (fun e=>by rw[e] at hne;cases hne) (fun e=>by rw[e] at hnb;cases hnb) (fun e=>by rw[e] at hby;cases hby) (by rwa [Nat.blt_eq] at hz) (Nat.eq_of_beq_eq_true hzz) hpr hblt h.1.1 h.1.2.1 h.1.2.2 h.2
end
end Go.V

set_option linter.unusedVariables false
namespace Go.V
inductive Tk where
 | none|int (k:IntKind)|bool|str|nilp|nilf|dead|gh|box
 | nils (c:Nat)|own (n:Nat)|yld (n:Nat)|agg (n:Nat)|tup (n:Nat)|clo (f n:Nat)
 | arr (c n:Nat)|ro (b:Bool) (c:Nat)|clip (b:Bool) (c:Nat)|usl (c:Nat)|lst (c:Nat)|fz (c:Nat)
 | lp (f id:Nat) (live:List Nat) (n st:Nat)
 | ptr (n:Nat) (p:List Step)|pel (n e:Nat)|tr (c:Nat) (p:List Step)|sub (n c:Nat)|bsl (n:Nat) (p:List Step) (c N:Nat)
abbrev It(U:Nat->Type):=A U⊕AObj U
section
variable (U:Nat->Type)
def Tk.fn(G:Type):Tk->Type
 | .int _|.gh=>Int->G
 | .bool=>Bool->G
 | .str=>ByteArray->G
 | .arr c _|.ro _ c|.clip _ c|.usl c|.lst c|.fz c=>List (U c)->G
 | .pel _ _=>Nat->G
 | .tr c _=>KT (U c)->G
 | .sub _ _|.bsl _ _ _ _=>Nat->Nat->G
 | _=>G
def Tk.ty:Tk->Type
 | .int _|.gh=>Int
 | .bool=>Bool
 | .str=>ByteArray
 | .arr c _|.ro _ c|.clip _ c|.usl c|.lst c|.fz c=>List (U c)
 | .pel _ _=>Nat
 | .tr c _=>KT (U c)
 | .sub _ _|.bsl _ _ _ _=>Nat×Nat
 | _=>Unit
def Cur(G:Type):List Tk->Type
 | []=>G
 | t::S=>t.fn U (Cur G S)
def Tp:List Tk->Type
 | []=>Unit
 | t::S=>t.ty U×Tp S
end
variable {U:Nat->Type} {G:Type}
def Tk.call:(t:Tk)->t.fn U G->t.ty U->G
 | .int _,F,x|.gh,F,x|.bool,F,x|.str,F,x|.arr _ _,F,x|.ro _ _,F,x|.clip _ _,F,x|.usl _,F,x|.lst _,F,x|.fz _,F,x|.pel _ _,F,x|.tr _ _,F,x=>F x
 | .sub _ _,F,x|.bsl _ _ _ _,F,x=>F x.1 x.2
 | .none,F,_|.nilp,F,_|.nilf,F,_|.dead,F,_|.box,F,_|.nils _,F,_|.own _,F,_|.yld _,F,_|.agg _,F,_|.tup _,F,_|.clo _ _,F,_|.lp _ _ _ _ _,F,_|.ptr _ _,F,_=>F
def appl:(S:List Tk)->Cur U G S->Tp U S->G
 | [],F,_=>F
 | t::S,F,x=>appl S (t.call F x.1) x.2
def lefts:Nat->List (It U)->List (A U)
 | 0,_=>[]
 | n+1,.inl a::X=>a::lefts n X
 | n+1,_::X=>lefts n X
 | n+1,[]=>[]
def skip:Nat->List (It U)->List (It U)
 | 0,X=>X
 | n+1,[]=>[]
 | n+1,_::X=>skip n X
theorem lefts_app:∀ (l:List (A U)) (X:List (It U)),lefts l.length (l.map .inl++X)=l/\skip l.length (l.map .inl++X)=X
 | [],X=>⟨rfl,rfl⟩
 | a::l,X=>⟨congrArg (a::·) (lefts_app l X).1,(lefts_app l X).2⟩
def box1:List (It U)->List (It U)
 | .inl a::X=>.inr (.box a)::X
 | X=>X
def Tk.mk:(t:Tk)->t.ty U->List (It U)->List (It U)
 | .none,_,X=>.inl .none::X
 | .int k,x,X=>.inl (.int k x)::X
 | .bool,x,X=>.inl (.bool x)::X
 | .str,x,X=>.inl (.str x)::X
 | .nilp,_,X=>.inl .nilp::X
 | .nilf,_,X=>.inl .nilf::X
 | .dead,_,X=>.inr .dead::X
 | .gh,x,X=>.inl (.gh x)::X
 | .box,_,X=>box1 X
 | .nils c,_,X=>.inl (.nils c)::X
 | .own n,_,X=>.inl (.own n)::X
 | .yld n,_,X=>.inl (.yld n)::X
 | .agg n,_,X=>.inl (.agg (lefts n X))::skip n X
 | .tup n,_,X=>.inl (.tup (lefts n X))::skip n X
 | .clo f n,_,X=>.inl (.clo f (lefts n X))::skip n X
 | .arr c n,x,X=>.inl (.arr c n x)::X
 | .ro b c,x,X=>.inl (.ro b c x)::X
 | .clip b c,x,X=>.inl (.clip b c x)::X
 | .usl c,x,X=>.inl (.usl c x)::X
 | .lst c,x,X=>.inr (.lst c x)::X
 | .fz c,x,X=>.inr (.fz c x)::X
 | .lp f id live n st,_,X=>.inr (.lp f id live (lefts n X) st)::skip n X
 | .ptr n p,_,X=>.inl (.ptr n p)::X
 | .pel n e,x,X=>.inl (.ptr n [.elt x e])::X
 | .tr c p,x,X=>.inl (.tr c x p)::X
 | .sub n c,x,X=>.inl (.sub n c x.1 x.2)::X
 | .bsl n p c N,x,X=>.inl (.bsl n p c N x.1 x.2)::X
def put:(S:List Tk)->Tp U S->List (It U)
 | [],_=>[]
 | t::S,x=>t.mk x.1 (put S x.2)
def stepB:Step->Step->Bool
 | .fld a b,.fld c d=>Nat.beq a c&&Nat.beq b d
 | .idx a b e,.idx c d f=>Nat.beq a c&&(Nat.beq b d&&Nat.beq e f)
 | .elt a b,.elt c d=>Nat.beq a c&&Nat.beq b d
 | _,_=>false
theorem stepB_eq:∀ {a b:Step},stepB a b=true->a=b:=by
 intro a b h
 cases a<;>cases b<;>simp[stepB] at h<;>simp[h]
def wayB:List Step->List Step->Bool
 | [],[]=>true
 | a::l,b::m=>stepB a b&&wayB l m
 | _,_=>false
theorem wayB_eq:∀ {l m:List Step},wayB l m=true->l=m
 | [],[],_=>rfl
 | a::l,b::m,h=>by
  simp only[wayB,Bool.and_eq_true] at h
  rw[stepB_eq h.1,wayB_eq h.2]
 | [],_::_,h=>by simp[wayB] at h
 | _::_,[],h=>by simp[wayB] at h
def natsB:List Nat->List Nat->Bool
 | [],[]=>true
 | a::l,b::m=>Nat.beq a b&&natsB l m
 | _,_=>false
theorem natsB_eq:∀ {l m:List Nat},natsB l m=true->l=m
 | [],[],_=>rfl
 | a::l,b::m,h=>by
  simp only[natsB,Bool.and_eq_true] at h
  rw[Nat.eq_of_beq_eq_true h.1,natsB_eq h.2]
 | [],_::_,h=>by simp[natsB] at h
 | _::_,[],h=>by simp[natsB] at h
def boolB(a b:Bool):Bool:=cond a b (not b)
theorem boolB_eq{a b:Bool}(h:boolB a b=true):a=b:=by cases a<;>cases b<;>simp[boolB] at h<;>rfl
def Tk.st:(t:Tk)->t.fn U G->It U->List (It U)->Option (G×List (It U))
 | .none,F,.inl .none,X=>some (F,X)
 | .int k,F,.inl (.int k' n),X=>if k'=k then some (F n,X) else Option.none
 | .bool,F,.inl (.bool n),X=>some (F n,X)
 | .str,F,.inl (.str n),X=>some (F n,X)
 | .nilp,F,.inl .nilp,X=>some (F,X)
 | .nilf,F,.inl .nilf,X=>some (F,X)
 | .dead,F,.inr .dead,X=>some (F,X)
 | .gh,F,.inl (.gh n),X=>some (F n,X)
 | .box,F,.inr (.box a),X=>some (F,.inl a::X)
 | .nils c,F,.inl (.nils d),X=>cond (Nat.beq d c) (some (F,X)) Option.none
 | .own c,F,.inl (.own d),X=>cond (Nat.beq d c) (some (F,X)) Option.none
 | .yld c,F,.inl (.yld d),X=>cond (Nat.beq d c) (some (F,X)) Option.none
 | .agg n,F,.inl (.agg l),X=>cond (Nat.beq l.length n) (some (F,l.map .inl++X)) Option.none
 | .tup n,F,.inl (.tup l),X=>cond (Nat.beq l.length n) (some (F,l.map .inl++X)) Option.none
 | .clo f n,F,.inl (.clo g l),X=>cond (Nat.beq g f&&Nat.beq l.length n) (some (F,l.map .inl++X)) Option.none
 | .arr c n,F,.inl (.arr d m l),X=>cond (Nat.beq m n) (if h:d=c then some (F (h▸l),X) else Option.none) Option.none
 | .ro b c,F,.inl (.ro b' d l),X=>cond (boolB b' b) (if h:d=c then some (F (h▸l),X) else Option.none) Option.none
 | .clip b c,F,.inl (.clip b' d l),X=>cond (boolB b' b) (if h:d=c then some (F (h▸l),X) else Option.none) Option.none
 | .usl c,F,.inl (.usl d l),X=>if h:d=c then some (F (h▸l),X) else Option.none
 | .lst c,F,.inr (.lst d l),X=>if h:d=c then some (F (h▸l),X) else Option.none
 | .fz c,F,.inr (.fz d l),X=>if h:d=c then some (F (h▸l),X) else Option.none
 | .lp f id live n s,F,.inr (.lp f' id' live' l s'),X=>cond (Nat.beq f' f&&(Nat.beq id' id&&(natsB live' live&&(Nat.beq l.length n&&Nat.beq s' s)))) (some (F,l.map .inl++X)) Option.none
 | .ptr n p,F,.inl (.ptr m q),X=>cond (Nat.beq m n&&wayB q p) (some (F,X)) Option.none
 | .pel n e,F,.inl (.ptr m [.elt i d]),X=>cond (Nat.beq m n&&Nat.beq d e) (some (F i,X)) Option.none
 | .tr c p,F,.inl (.tr d x q),X=>cond (wayB q p) (if h:d=c then some (F (h▸x),X) else Option.none) Option.none
 | .sub n c,F,.inl (.sub m d i j),X=>cond (Nat.beq m n&&Nat.beq d c) (some (F i j,X)) Option.none
 | .bsl n p c N,F,.inl (.bsl m q d M i j),X=>cond (Nat.beq m n&&(wayB q p&&(Nat.beq d c&&Nat.beq M N))) (some (F i j,X)) Option.none
 | _,_,_,_=>Option.none
def ap:(S:List Tk)->Cur U G S->List (It U)->Option G
 | [],F,[]=>some F
 | [],_,_::_=>none
 | _::_,_,[]=>none
 | t::S,F,x::X=>match t.st F x X with
  | some q=>ap S q.1 q.2
  | none=>none
theorem bcond{α:Type}{b:Bool}{x:Option α}{y:α}(h:cond b x none=some y):b=true/\x=some y:=by
 cases b with
 | true=>exact⟨rfl,h⟩
 | false=>cases h
theorem dcond{α:Type}{p:Prop}[d:Decidable p]{x:p->Option α}{y:α}(h:(if h:p then x h else none)=some y):∃ h:p,x h=some y:=by
 by_cases hp:p
 ·rw[dif_pos hp] at h;exact⟨hp,h⟩
 ·rw[dif_neg hp] at h;cases h
theorem st_ok{t:Tk}{F:t.fn U G}{x:It U}{X:List (It U)}{q:G×List (It U)}(h:t.st F x X=some q):∃ v,q.1=t.call F v/\t.mk v q.2=x::X:=by
 have sp {α:Type} {a b:α} (h:some a=some b):b=a:=(Option.some.inj h).symm
 unfold Tk.st at h
 split at h
 ·cases sp h;exact⟨(),rfl,rfl⟩
 ·split at h
  ·rename_i hk;subst hk;cases sp h;exact⟨_,rfl,rfl⟩
  ·cases h
 ·cases sp h;exact⟨_,rfl,rfl⟩
 ·cases sp h;exact⟨_,rfl,rfl⟩
 ·cases sp h;exact⟨(),rfl,rfl⟩
 ·cases sp h;exact⟨(),rfl,rfl⟩
 ·cases sp h;exact⟨(),rfl,rfl⟩
 ·cases sp h;exact⟨_,rfl,rfl⟩
 ·cases sp h;exact⟨(),rfl,rfl⟩
 ·obtain⟨h1,h0⟩:=bcond h;clear h;cases Nat.eq_of_beq_eq_true h1;cases sp h0;exact⟨(),rfl,rfl⟩
 ·obtain⟨h1,h0⟩:=bcond h;clear h;cases Nat.eq_of_beq_eq_true h1;cases sp h0;exact⟨(),rfl,rfl⟩
 ·obtain⟨h1,h0⟩:=bcond h;clear h;cases Nat.eq_of_beq_eq_true h1;cases sp h0;exact⟨(),rfl,rfl⟩
 ·obtain⟨h1,h0⟩:=bcond h;clear h;cases Nat.eq_of_beq_eq_true h1;cases sp h0;exact⟨(),rfl,by simp only[Tk.mk];rw[(lefts_app _ _).1,(lefts_app _ _).2]⟩
 ·obtain⟨h1,h0⟩:=bcond h;clear h;cases Nat.eq_of_beq_eq_true h1;cases sp h0;exact⟨(),rfl,by simp only[Tk.mk];rw[(lefts_app _ _).1,(lefts_app _ _).2]⟩
 ·obtain⟨h1,h0⟩:=bcond h;clear h
  simp only[Bool.and_eq_true] at h1
  cases Nat.eq_of_beq_eq_true h1.1;cases Nat.eq_of_beq_eq_true h1.2;cases sp h0;exact⟨(),rfl,by simp only[Tk.mk];rw[(lefts_app _ _).1,(lefts_app _ _).2]⟩
 ·obtain⟨h1,h0⟩:=bcond h;clear h;obtain⟨rfl,h0⟩:=dcond h0;cases Nat.eq_of_beq_eq_true h1;cases sp h0;exact⟨_,rfl,rfl⟩
 ·obtain⟨h1,h0⟩:=bcond h;clear h;obtain⟨rfl,h0⟩:=dcond h0;cases boolB_eq h1;cases sp h0;exact⟨_,rfl,rfl⟩
 ·obtain⟨h1,h0⟩:=bcond h;clear h;obtain⟨rfl,h0⟩:=dcond h0;cases boolB_eq h1;cases sp h0;exact⟨_,rfl,rfl⟩
 ·obtain⟨rfl,h0⟩:=dcond h;cases sp h0;exact⟨_,rfl,rfl⟩
 ·obtain⟨rfl,h0⟩:=dcond h;cases sp h0;exact⟨_,rfl,rfl⟩
 ·obtain⟨rfl,h0⟩:=dcond h;cases sp h0;exact⟨_,rfl,rfl⟩
 ·obtain⟨h1,h0⟩:=bcond h;clear h
  simp only[Bool.and_eq_true] at h1
  cases Nat.eq_of_beq_eq_true h1.1;cases Nat.eq_of_beq_eq_true h1.2.1;cases natsB_eq h1.2.2.1;cases Nat.eq_of_beq_eq_true h1.2.2.2.1;cases Nat.eq_of_beq_eq_true h1.2.2.2.2
  cases sp h0;exact⟨(),rfl,by simp only[Tk.mk];rw[(lefts_app _ _).1,(lefts_app _ _).2]⟩
 ·obtain⟨h1,h0⟩:=bcond h;clear h
  simp only[Bool.and_eq_true] at h1
  cases Nat.eq_of_beq_eq_true h1.1;cases wayB_eq h1.2;cases sp h0;exact⟨(),rfl,rfl⟩
 ·obtain⟨h1,h0⟩:=bcond h;clear h
  simp only[Bool.and_eq_true] at h1
  cases Nat.eq_of_beq_eq_true h1.1;cases Nat.eq_of_beq_eq_true h1.2;cases sp h0;exact⟨_,rfl,rfl⟩
 ·obtain⟨h1,h0⟩:=bcond h;clear h;obtain⟨rfl,h0⟩:=dcond h0;cases wayB_eq h1;cases sp h0;exact⟨_,rfl,rfl⟩
 ·obtain⟨h1,h0⟩:=bcond h;clear h
  simp only[Bool.and_eq_true] at h1
  cases Nat.eq_of_beq_eq_true h1.1;cases Nat.eq_of_beq_eq_true h1.2;cases sp h0;exact⟨(_,_),rfl,rfl⟩
 ·obtain⟨h1,h0⟩:=bcond h;clear h
  simp only[Bool.and_eq_true] at h1
  cases Nat.eq_of_beq_eq_true h1.1;cases wayB_eq h1.2.1;cases Nat.eq_of_beq_eq_true h1.2.2.1;cases Nat.eq_of_beq_eq_true h1.2.2.2;cases sp h0;exact⟨(_,_),rfl,rfl⟩
 ·cases h
theorem apk_ok:∀ (S:List Tk) {F:Cur U G S} {X:List (It U)} {g:G},ap S F X=some g->∃ v,g=appl S F v/\put S v=X
 | [],F,[],g,h=>⟨(),(Option.some.inj h).symm,rfl⟩
 | [],F,_::_,g,h=>nomatch h
 | _::_,F,[],g,h=>nomatch h
 | t::S,F,x::X,g,h=>by
  simp only[ap] at h
  split at h
  ·rename_i q hq
   obtain⟨v,h1,h2⟩:=st_ok hq
   obtain⟨u,h3,h4⟩:=apk_ok S h
   exact⟨(v,u),by rw[h3,h1];rfl,by rw[<-h2,<-h4];rfl⟩
  ·cases h
def aOf:List (It U)->List (A U)
 | []=>[]
 | .inl a::X=>a::aOf X
 | .inr _::X=>aOf X
def oOf:List (It U)->List (AObj U)
 | []=>[]
 | .inl _::X=>oOf X
 | .inr a::X=>a::oOf X
def its:List (A U)->List (AObj U)->List (It U)
 | a::l,o=>.inl a::its l o
 | [],o=>o.map .inr
theorem its_of:∀ (l:List (A U)) (o:List (AObj U)),aOf (its l o)=l/\oOf (its l o)=o
 | a::l,o=>⟨congrArg (a::·) (its_of l o).1,(its_of l o).2⟩
 | [],[]=>⟨rfl,rfl⟩
 | [],a::o=>⟨(its_of [] o).1,congrArg (a::·) (its_of [] o).2⟩
abbrev Kt(U:Nat->Type):=A U->List (AObj U)->Prop
abbrev Cfn(U:Nat->Type):=Nat->List (A U)->List (AObj U)->Kt U->Prop
def altT(S:List Tk)(F:Cur U G S)(fin:G->Kt U->Prop)(R:Fn U):Fn U:=fun args objs K=>match ap S F (its args objs) with
 | some g=>Hold (fin g K)
 | none=>R args objs K
def altC(nb:Nat)(S:List Tk)(F:Cur U G S)(fin:G->Kt U->Prop)(R:Cfn U):Cfn U:=fun n args objs K=>cond (Nat.beq n nb)
 (match ap S F (its args objs) with
 | some g=>Hold (fin g K)
 | none=>R n args objs K) (R n args objs K)
theorem altT_ok{S:List Tk}{F:Cur U G S}{fin:G->Kt U->Prop}{R:Fn U}{args:List (A U)}{objs:List (AObj U)}{K:Kt U}(h:altT S F fin R args objs K) :
  (∃ v,args=aOf (put S v)/\objs=oOf (put S v)/\fin (appl S F v) K)\/R args objs K:=by
 unfold altT at h
 split at h
 ·rename_i g hg
  obtain⟨v,h1,h2⟩:=apk_ok S hg
  exact .inl ⟨v,by rw[h2,(its_of _ _).1],by rw[h2,(its_of _ _).2],h1▸h.out⟩
 ·exact .inr h
theorem altC_ok{nb:Nat}{S:List Tk}{F:Cur U G S}{fin:G->Kt U->Prop}{R:Cfn U}{n:Nat}{args:List (A U)}{objs:List (AObj U)}{K:Kt U}(h:altC nb S F fin R n args objs K) :
  (∃ v,n=nb/\args=aOf (put S v)/\objs=oOf (put S v)/\fin (appl S F v) K)\/R n args objs K:=by
 unfold altC at h
 cases hb:Nat.beq n nb with
 | true=>
  rw[hb] at h
  simp only[cond_true] at h
  split at h
  ·rename_i g hg
   obtain⟨v,h1,h2⟩:=apk_ok S hg
   exact .inl ⟨v,Nat.eq_of_beq_eq_true hb,by rw[h2,(its_of _ _).1],by rw[h2,(its_of _ _).2],h1▸h.out⟩
  ·exact .inr h
 | false=>rw[hb] at h;exact .inr h
abbrev TL(U:Nat->Type):=List (Nat×(Nat->Fn U))
abbrev CL(U:Nat->Type):=List (Nat×Nat×(Nat->Cfn U))
def tabT:TL U->Nat->Tab U
 | [],_,_=>fun _ _ _=>False
 | (g,F)::l,k,f=>cond (Nat.beq f g) (F k) (tabT l k f)
def tabC:CL U->Nat->Cut U
 | [],_,_,_=>fun _ _ _ _=>False
 | (g,i,F)::l,k,f,id=>cond (Nat.beq f g&&Nat.beq id i) (F k) (tabC l k f id)
theorem tabT_in{k f:Nat}{args:List (A U)}{bs:List (AObj U)}{K}:∀ {l:TL U},tabT l k f args bs K->∃ F,(f,F)∈l/\F k args bs K
 | [],h=>h.elim
 | (g,F)::l,h=>by
  simp only[tabT] at h
  cases hb:Nat.beq f g with
  | true=>rw[hb] at h;rw[Nat.eq_of_beq_eq_true hb];exact⟨F,by simp,h⟩
  | false=>rw[hb] at h;obtain⟨F',h1,h2⟩:=tabT_in (l:=l) h;exact⟨F',by simp[h1],h2⟩
theorem tabC_in{k f id nb:Nat}{vals:List (A U)}{objs:List (AObj U)}{K}:∀ {l:CL U},tabC l k f id nb vals objs K->∃ F,(f,id,F)∈l/\F k nb vals objs K
 | [],h=>h.elim
 | (g,i,F)::l,h=>by
  simp only[tabC] at h
  cases hb:(Nat.beq f g&&Nat.beq id i) with
  | true=>
   rw[hb] at h
   simp only[Bool.and_eq_true] at hb
   rw[Nat.eq_of_beq_eq_true hb.1,Nat.eq_of_beq_eq_true hb.2];exact⟨F,by simp,h⟩
  | false=>rw[hb] at h;obtain⟨F',h1,h2⟩:=tabC_in (l:=l) h;exact⟨F',by simp[h1],h2⟩
section
variable {E:Env U} {R:TL U} {Q:CL U} {f id:Nat} {S:List Tk} {F:Nat->Cur U G S} {fin:G->Kt U->Prop}
def TG(E:Env U)(R:TL U)(Q:CL U)(f:Nat)(F:Nat->Fn U):Prop:=
 (∀ args objs K,¬F 0 args objs K)/\∀ k args objs K,F (k+1) args objs K->RowOk E (tabT R k) (tabC Q k) f args objs K
theorem TG.none:TG E R Q f (fun _ _ _ _=>False):=⟨fun _ _ _ h=>h,fun _ _ _ _ h=>h.elim⟩
theorem TG.row{P:Nat->Fn U}(hz:(fun (v:Tp U S) (K:Kt U)=>fin (appl S (F 0) v) K)=fun _ _=>False)
  (ho:∀ k v K,fin (appl S (F (k+1)) v) K->RowOk E (tabT R k) (tabC Q k) f (aOf (put S v)) (oOf (put S v)) K) (hr:TG E R Q f P) :
  TG E R Q f (fun k=>altT S (F k) fin (P k)):=by
 refine⟨fun args objs K h=>?_,fun k args objs K h=>?_⟩
 ·rcases altT_ok h with ⟨v,-,-,h⟩|h
  ·have:=congrFun (congrFun hz v) K
   exact cast this h
  ·exact hr.1 _ _ _ h
 ·rcases altT_ok h with ⟨v,rfl,rfl,h0⟩|h
  ·exact ho k v K h0
  ·exact hr.2 _ _ _ _ h
theorem TG.fn{P:Nat->Fn U}(hf:fnOk E.P f=true)(hb:Nat.blt f 1000000=true)(hz:(fun (v:Tp U S) (K:Kt U)=>fin (appl S (F 0) v) K)=fun _ _=>False)
  (ho:(fun (k:Nat) (v:Tp U S) (K:Kt U)=>fin (appl S (F (k+1)) v) K)=fun k v K=>vfunc E (tabT R k) (tabC Q k) f (aOf (put S v)) (oOf (put S v)) K) (hr:TG E R Q f P) :
  TG E R Q f (fun k=>altT S (F k) fin (P k)):=
 .row hz (fun k v K h=>.fn hf hb ⟨cast (congrFun (congrFun (congrFun ho k) v) K) h⟩) hr
theorem TG.round{g:Nat}{P:Nat->Fn U}(hf:fnOk E.P g=true)(hb:Nat.blt id 1000000=true)(hz:(fun (v:Tp U S) (K:Kt U)=>fin (appl S (F 0) v) K)=fun _ _=>False)
  (ho:(fun (k:Nat) (v:Tp U S) (K:Kt U)=>fin (appl S (F (k+1)) v) K)=fun k v K=>vround E (tabT R k) (tabC Q k) g id (aOf (put S v)) (oOf (put S v)) K) (hr:TG E R Q (ykey g id) P) :
  TG E R Q (ykey g id) (fun k=>altT S (F k) fin (P k)):=
 .row hz (fun k v K h=>.round g id rfl hf hb ⟨cast (congrFun (congrFun (congrFun ho k) v) K) h⟩) hr
def CGo(E:Env U)(R:TL U)(Q:CL U)(f id:Nat)(live:List Nat)(F:Nat->Cfn U):Prop:=
 (∀ nb args objs K,¬F 0 nb args objs K)/\∀ k nb args objs K,F (k+1) nb args objs K->Hold (vcut E (tabT R k) (tabC Q k) f id live nb args objs K)
theorem CGo.none{live:List Nat}:CGo E R Q f id live (fun _ _ _ _ _=>False):=⟨fun _ _ _ _ h=>h,fun _ _ _ _ _ h=>h.elim⟩
def CG(E:Env U)(R:TL U)(Q:CL U)(f id:Nat)(F:Nat->Cfn U):Prop:=∃ live,cutOf f id E.cuts=some live/\fnOk E.P f=true/\CGo E R Q f id live F
theorem CG.of{F:Nat->Cfn U}(live:List Nat)(h:cutOf f id E.cuts=some live)(hf:fnOk E.P f=true)(hr:CGo E R Q f id live F):CG E R Q f id F:=⟨live,h,hf,hr⟩
end
end Go.V

set_option linter.unusedVariables false
namespace Go.V
variable {U:Nat->Type} {G:Type}
abbrev Tk.i:Tk:=.int .i64
abbrev Tk.t(c:Nat):Tk:=.ro true c
abbrev Tk.r(c:Nat):Tk:=.ro false c
def fN:Fn U:=fun _ _ _=>False
def cN:Cfn U:=fun _ _ _ _=>False
section
variable {E:Env U} {R:TL U} {Q:CL U} {f id:Nat} {S:List Tk} {F:Nat->Cur U G S} {fin:G->Kt U->Prop}
theorem dec_ok{α:Type}{S:List Tk}{mk:Cur U α S}{enc:α->A U}(he:(fun v:Tp U S=>[(Sum.inl (enc (appl S mk v)):It U)])=fun v=>put S v){a:A U}{x:α}(h:ap S mk [.inl a]=some x):enc x=a:=by
 obtain⟨v,h1,h2⟩:=apk_ok S h
 have:=congrFun he v
 rw[h2,<-h1] at this
 simpa using this
theorem TG.n:TG E R Q f (fun _=>fN):=.none
theorem TG.a{P:Nat->Fn U}(hf:fnOk E.P f=true)(hr:TG E R Q f P)(hb:Nat.blt f 1000000=true:=by kernel_rfl)(hz:(fun (v:Tp U S) (K:Kt U)=>fin (appl S (F 0) v) K)=fun _ _=>False:=by kernel_rfl)
  (ho:(fun (k:Nat) (v:Tp U S) (K:Kt U)=>fin (appl S (F (k+1)) v) K)=fun k v K=>vfunc E (tabT R k) (tabC Q k) f (aOf (put S v)) (oOf (put S v)) K:=by kernel_rfl) :
  TG E R Q f (fun k=>altT S (F k) fin (P k)):=.fn hf hb hz ho hr
theorem TG.y{g:Nat}{P:Nat->Fn U}(hf:fnOk E.P g=true)(hr:TG E R Q (ykey g id) P)(hb:Nat.blt id 1000000=true:=by kernel_rfl)(hz:(fun (v:Tp U S) (K:Kt U)=>fin (appl S (F 0) v) K)=fun _ _=>False:=by kernel_rfl)
  (ho:(fun (k:Nat) (v:Tp U S) (K:Kt U)=>fin (appl S (F (k+1)) v) K)=fun k v K=>vround E (tabT R k) (tabC Q k) g id (aOf (put S v)) (oOf (put S v)) K:=by kernel_rfl) :
  TG E R Q (ykey g id) (fun k=>altT S (F k) fin (P k)):=.round hf hb hz ho hr
theorem TG.h{P:Nat->Fn U}(ho:∀ k v K,fin (appl S (F (k+1)) v) K->RowOk E (tabT R k) (tabC Q k) f (aOf (put S v)) (oOf (put S v)) K)(hr:TG E R Q f P)
  (hz:(fun (v:Tp U S) (K:Kt U)=>fin (appl S (F 0) v) K)=fun _ _=>False:=by kernel_rfl):TG E R Q f (fun k=>altT S (F k) fin (P k)):=.row hz ho hr
def vcutL(E:Env U)(T:Tab U)(C:Cut U)(f id nb:Nat)(vals:List (A U))(objs:List (AObj U))(K:Kt U):Prop:=match cutOf f id E.cuts with
 | some live=>vcut E T C f id live nb vals objs K
 | .none=>False
def CO(E:Env U)(R:TL U)(Q:CL U)(f id:Nat)(F:Nat->Cfn U):Prop:=
 (∀ nb args objs K,¬F 0 nb args objs K)/\∀ k nb args objs K,F (k+1) nb args objs K->vcutL E (tabT R k) (tabC Q k) f id nb args objs K
theorem CO.n:CO E R Q f id (fun _=>cN):=⟨fun _ _ _ _ h=>h,fun _ _ _ _ _ h=>h.elim⟩
theorem CO.c{nb:Nat}{P:Nat->Cfn U}(hr:CO E R Q f id P)(hz:(fun (v:Tp U S) (K:Kt U)=>fin (appl S (F 0) v) K)=fun _ _=>False:=by kernel_rfl)
  (ho:(fun (k:Nat) (v:Tp U S) (K:Kt U)=>fin (appl S (F (k+1)) v) K)=fun k v K=>vcutL E (tabT R k) (tabC Q k) f id nb (aOf (put S v)) (oOf (put S v)) K:=by kernel_rfl) :
  CO E R Q f id (fun k=>altC nb S (F k) fin (P k)):=by
 refine⟨fun n args objs K h=>?_,fun k n args objs K h=>?_⟩
 ·rcases altC_ok h with ⟨v,-,-,-,h⟩|h
  ·exact cast (congrFun (congrFun hz v) K) h
  ·exact hr.1 _ _ _ _ h
 ·rcases altC_ok h with ⟨v,rfl,rfl,rfl,h0⟩|h
  ·exact cast (congrFun (congrFun (congrFun ho k) v) K) h0
  ·exact hr.2 _ _ _ _ _ h
abbrev TA(E:Env U)(R:TL U)(Q:CL U)(l:TL U):Prop:=∀ r∈l,TG E R Q r.1 r.2
abbrev CA(E:Env U)(R:TL U)(Q:CL U)(l:CL U):Prop:=∀ r∈l,fnOk E.P r.1=true/\CO E R Q r.1 r.2.1 r.2.2
theorem tn:TA E R Q []:=fun _ h=>nomatch h
theorem ta{F:Nat->Fn U}{l:TL U}(h:TG E R Q f F)(t:TA E R Q l):TA E R Q ((f,F)::l):=List.forall_mem_cons.2 ⟨h,t⟩
theorem cn:CA E R Q []:=fun _ h=>nomatch h
theorem ca{F:Nat->Cfn U}{l:CL U}(hf:fnOk E.P f=true)(h:CO E R Q f id F)(t:CA E R Q l):CA E R Q ((f,id,F)::l):=List.forall_mem_cons.2 ⟨⟨hf,h⟩,t⟩
theorem tablesH(ok:EnvOk2 E)(hm:E.P.follows .mixedOrders=true)(hT:TA E R Q R)(hC:CA E R Q Q)(k:Nat):TSound E (tabT R k)/\CSound E (tabC Q k):=by
 refine tables (T:=tabT R) (C:=tabC Q) ok hm ?_ ?_ ?_ ?_ k
 ·intro f args objs K h
  obtain⟨F,h1,h2⟩:=tabT_in h
  exact (hT _ h1).1 _ _ _ h2
 ·intro f id nb vals objs K h
  obtain⟨F,h1,h2⟩:=tabC_in h
  exact (hC _ h1).2.1 _ _ _ _ h2
 ·intro k f args objs K h
  obtain⟨F,h1,h2⟩:=tabT_in h
  cases (hT _ h1).2 k args objs K h2 with
  | fn q1 q2 q3=>exact .inl ⟨q1,q2,q3.out⟩
  | round g id q0 q1 q2 q3=>exact .inr (.inl ⟨g,id,q0,q1,q2,q3.out⟩)
  | row q=>exact .inr (.inr q)
 ·intro k f id live nb vals objs K hl h
  obtain⟨F,h1,h2⟩:=tabC_in h
  obtain⟨q1,q2⟩:=hC _ h1
  have:=q2.2 k _ _ _ _ h2
  unfold vcutL at this
  rw[hl] at this
  exact⟨q1,this⟩
end
end Go.V
