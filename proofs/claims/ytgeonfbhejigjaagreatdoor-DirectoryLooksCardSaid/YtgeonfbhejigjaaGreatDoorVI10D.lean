import Derived.Test.YtgeonfbhejigjaaGreatDoorVI10G
import Derived.Test.YtgeonfbhejigjaaGreatDoorVI10E
import Derived.Deep.Cut
set_option maxRecDepth 100000
set_option maxHeartbeats 1600000
namespace Go.Proofs.OnceV
open Go.Proofs Go.V
structure Three (w W:World) (pv:Value) (w0:Int):Prop where
 size:W.heap.size=w.heap.size+3
 same:∀ b,b<w.heap.size->W.heap[b]?=w.heap[b]?
 c0:W.cell? ⟨w.heap.size,0,none⟩=some pv
 c1:W.cell? ⟨w.heap.size+1,0,none⟩=some (.int .i64 w0)
 h0:∃ t,W.heap[w.heap.size]?=some (.cells #[pv] t)
 h1:∃ t,W.heap[w.heap.size+1]?=some (.cells #[.int .i64 w0] t)
 h2:W.heap[w.heap.size+1+1]?=some (.cells (Array.replicate 32 (.int .u8 0)) 29)
 tape:W.tape=w.tape
 os:W.os=w.os
 out:W.output=w.output
 drn:W.drawn=w.drawn
theorem heap_alloc(w:World)(o:Obj)(b:Nat):(w.alloc o).heap[b]?=if b=w.heap.size then some o else w.heap[b]?:=by
 show (w.heap.push o)[b]?=_
 rw[Array.getElem?_push]
theorem size_alloc(w:World)(o:Obj):(w.alloc o).heap.size=w.heap.size+1:=Array.size_push _
theorem three_of(w:World)(pv:Value)(w0:Int)(t u:Nat):Three w (((w.alloc (.cells #[pv] t)).alloc (.cells #[.int .i64 w0] u)).alloc (.cells (Array.replicate 32 (.int .u8 0)) 29)) pv w0:=by
 have e0:(((w.alloc (.cells #[pv] t)).alloc (.cells #[.int .i64 w0] u)).alloc (.cells (Array.replicate 32 (.int .u8 0)) 29)).heap[w.heap.size]?=some (.cells #[pv] t):=by
  rw[heap_alloc,size_alloc,size_alloc,if_neg (by omega),heap_alloc,size_alloc,if_neg (by omega),heap_alloc,if_pos rfl]
 have e1:(((w.alloc (.cells #[pv] t)).alloc (.cells #[.int .i64 w0] u)).alloc (.cells (Array.replicate 32 (.int .u8 0)) 29)).heap[w.heap.size+1]?=some (.cells #[.int .i64 w0] u):=by
  rw[heap_alloc,size_alloc,size_alloc,if_neg (by omega),heap_alloc,size_alloc,if_pos rfl]
 refine⟨by rw[size_alloc,size_alloc,size_alloc],fun b hb=>?_,?_,?_,⟨_,e0⟩,⟨_,e1⟩,by rw[heap_alloc,size_alloc,size_alloc,if_pos rfl],rfl,rfl,rfl,rfl⟩
 ·rw[heap_alloc,size_alloc,size_alloc,if_neg (by omega),heap_alloc,size_alloc,if_neg (by omega),heap_alloc,if_neg (by omega)]
 ·unfold World.cell?;rw[e0];rfl
 ·unfold World.cell?;rw[e1];rfl
theorem step1{P:Program}{ops:Array Oper}{Q:Exit->Act->World->Prop}{i:Nat}{rest:List Nat}{a:Act}{w w':World}{o:Oper}{v:Value}(h1:ops[i]?=some o)(h2:o.guard=none)(h3:(execOp a.eval o).run P w=.ok (.value v) w')(h:wpOps P ops Q rest (a.put o.dst v) w') :
  wpOps P ops Q (i::rest) a w:=by
 have hw:Region.wanted o (yielded ops a.tmps)=true:=by unfold Region.wanted;rw[h2]
 simp only[wpOps,h1,hw,if_true]
 refine .inl ?_
 unfold Oper.wp
 rw[h3]
 exact h
theorem step0{P:Program}{ops:Array Oper}{Q:Exit->Act->World->Prop}{i:Nat}{rest:List Nat}{a:Act}{w w':World}{o:Oper}(h1:ops[i]?=some o)(h2:o.guard=none)(h3:(execOp a.eval o).run P w=.ok .skip w')(h:wpOps P ops Q rest (a.put o.dst undef) w') :
  wpOps P ops Q (i::rest) a w:=by
 have hw:Region.wanted o (yielded ops a.tmps)=true:=by unfold Region.wanted;rw[h2]
 simp only[wpOps,h1,hw,if_true]
 refine .inl ?_
 unfold Oper.wp
 rw[h3]
 exact h
theorem dig_node(B:Nat)(w0:Int)(w:World)(R:Array Value->World->Prop)
  (hDo:∀ W,Three w W (.pointer (some ⟨B,0,none⟩)) w0->Calls Tryz.prog 190 #[.pointer (some ⟨B,0,none⟩),.func (.func 191) #[] #[.pointer (some ⟨w.heap.size,0,none⟩),.pointer (some ⟨w.heap.size+1,0,none⟩)]] W fun e W'=>e=.returned (.tuple #[]) ∧
   ∃ ds,((Instr.loadAt 206 (.pointer (some ⟨w.heap.size,0,none⟩))).run Tryz.prog W'=.ok (.pointer (some ⟨B,0,none⟩)) W'/\(Instr.loadAt 29 (.pointer (some ⟨B,3,none⟩))).run Tryz.prog W'=.ok (.agg ds) W' ∧
    (Instr.storeAt 29 (.pointer (some ⟨w.heap.size+1+1,0,none⟩)) (.agg ds)).run Tryz.prog W'=.ok () (W'.setCells (w.heap.size+1+1) 0 ds.toList) ∧
    (loadVar 29 ⟨w.heap.size+1+1,0,none⟩).run Tryz.prog (W'.setCells (w.heap.size+1+1) 0 ds.toList)=.ok (.agg ds) (W'.setCells (w.heap.size+1+1) 0 ds.toList))/\R ds W') :
  Calls Tryz.prog 170 #[.pointer (some ⟨B,0,none⟩),.int .i64 w0] w fun e w'=>∃ ds,e=.returned (.agg ds)/\∃ W',R ds W'/\w'=W'.setCells (w.heap.size+1+1) 0 ds.toList:=by
 have hmf:∀ (fn:Fn) (first cap:Array Value) (w:World),(Instr.makeFunc fn first cap).run Tryz.prog w=.ok (.func fn first cap) w:=fun _ _ _ _=>rfl
 go_enter Tryz.func170,Tryz.ntmps170
 go_upto_region 1 with fail
 generalize hW:World.alloc _ _=W
 have T:Three w W (.pointer (some ⟨B,0,none⟩)) w0:=by
  subst hW
  exact three_of w _ w0 206 3
 have hc0:=T.c0
 clear hW
 have hd:=hDo W T
 go_upto_region 4 with (go_at_call 190;refine hd.mono ?_;rintro e W' ⟨rfl,ds,⟨k4,k1,k2,k3⟩,hR⟩)
 have f88:(Instr.fieldAt 249 (.pointer (some ⟨B,0,none⟩)) 0).run Tryz.prog W'=.ok (.pointer (some ⟨B,0,none⟩)) W':=by
  have:=fieldAt_run (w:=W') PEok (t:=249) (fs:=[(247,0),(140,35),(206,99),(206,100)]) (k:=0) (f:=(247,0)) (by kernel_rfl) rfl (by kernel_rfl) B 0
  simp only[Nat.add_zero] at this
  exact this
 have f86:(Instr.fieldAt 247 (.pointer (some ⟨B,0,none⟩)) 1).run Tryz.prog W'=.ok (.pointer (some ⟨B,3,none⟩)) W':=by
  have:=fieldAt_run (w:=W') PEok (t:=247) (fs:=[(245,0),(29,3)]) (k:=1) (f:=(29,3)) (by kernel_rfl) rfl (by kernel_rfl) B 0
  simp only[Nat.zero_add] at this
  exact this
 clear hd hDo hmf T
 refine wp_region ?_
 show wpOps Tryz.prog _ _ [0,1,2,3,4,5] _ _
 refine step1 (v:=.pointer (some ⟨B,0,none⟩)) (w':=W') rfl rfl ?_ ?_
 ·show ((Instr.loadAt 206 (.pointer (some ⟨w.heap.size,0,none⟩))) >>= fun v=>pure (Next.value v):Sem Next).run _ _=_
  rw[Sem.run_bind,k4];rfl
 refine step1 (v:=.pointer (some ⟨B,0,none⟩)) (w':=W') rfl rfl rfl ?_
 refine step1 (v:=.pointer (some ⟨B,0,none⟩)) (w':=W') rfl rfl ?_ ?_
 ·show ((Instr.fieldAt 249 (.pointer (some ⟨B,0,none⟩)) 0) >>= fun v=>pure (Next.value v):Sem Next).run _ _=_
  rw[Sem.run_bind,f88];rfl
 refine step1 (v:=.pointer (some ⟨B,3,none⟩)) (w':=W') rfl rfl ?_ ?_
 ·show ((Instr.fieldAt 247 (.pointer (some ⟨B,0,none⟩)) 1) >>= fun v=>pure (Next.value v):Sem Next).run _ _=_
  rw[Sem.run_bind,f86];rfl
 refine step1 (v:=.agg ds) (w':=W') rfl rfl ?_ ?_
 ·show ((Instr.loadAt 29 (.pointer (some ⟨B,3,none⟩))) >>= fun v=>pure (Next.value v):Sem Next).run _ _=_
  rw[Sem.run_bind,k1];rfl
 refine step0 (w':=W'.setCells (w.heap.size+1+1) 0 ds.toList) rfl rfl ?_ ?_
 ·show ((Instr.storeAt 29 (.pointer (some ⟨w.heap.size+1+1,0,none⟩)) (.agg ds)) >>= fun _=>pure Next.skip:Sem Next).run _ _=_
  rw[Sem.run_bind,k2];rfl
 simp only[wpOps,Exit.then]
 refine ‹∀ (a:Act) (w:World),Code.wp _ _ _ a w->_› _ _ ?_
 refine wp_ret ?_
 refine bodyPost_ret (results_run (vs:=[.agg ds]) (.cell ?_ .nil)) rfl ?_
 ·show ((asAddr (.pointer (some ⟨w.heap.size+1+1,0,none⟩))) >>= fun x=>loadVar 29 x:Sem Value).run _ _=_
  rw[Sem.run_bind]
  exact k3
 ·exact⟨ds,rfl,W',hR,rfl⟩
theorem stepc{P:Program}{ops:Array Oper}{Q:Exit->Act->World->Prop}{i:Nat}{rest:List Nat}{a:Act}{w:World}{o:Oper}{f:FuncId}{args:Array Value}(h1:ops[i]?=some o)(h2:o.guard=none)(h3:(execOp a.eval o).run P w=.ok (.enter f args) w)
  (h:Calls P f args w fun e w'=>∃ v,e=.returned v/\wpOps P ops Q rest (a.put o.dst v) w'):wpOps P ops Q (i::rest) a w:=by
 have hw:Region.wanted o (yielded ops a.tmps)=true:=by unfold Region.wanted;rw[h2]
 simp only[wpOps,h1,hw,if_true]
 refine .inl ?_
 unfold Oper.wp
 rw[h3,Oper.upon_enter]
 refine h.mono ?_
 rintro e w' ⟨v,rfl,hv⟩
 exact hv
theorem run20(a:Act)(o:Oper)(c:Call)(x:Value)(w:World)(hc:c.callee=.value (.func 132))(ho:o.op=.call c)(hx:c.args.map a.eval = #[x]):(execOp a.eval o).run Tryz.prog w=.ok (.enter 132 #[x]) w:=by
 have h:=call_run (E:=PE) (w:=w) (a:=a) (vs := #[]) hc ho (g:=132) rfl (body:=_) Tryz.func132 (by rfl) (by kernel_rfl)
 rw[hx] at h
 exact h
theorem dig_nil(w0:Int)(w:World)(R:Array Value->World->Prop)
  (hE:∀ W,Three w W (.pointer none) w0->(Instr.loadAt 3 (.pointer (some ⟨w.heap.size+1,0,none⟩))).run Tryz.prog W=.ok (.int .i64 w0) W/\Calls Tryz.prog 132 #[.int .i64 w0] W fun e W'=>
   ∃ ds,e=.returned (.agg ds)/\((Instr.storeAt 29 (.pointer (some ⟨w.heap.size+1+1,0,none⟩)) (.agg ds)).run Tryz.prog W'=.ok () (W'.setCells (w.heap.size+1+1) 0 ds.toList) ∧
    (loadVar 29 ⟨w.heap.size+1+1,0,none⟩).run Tryz.prog (W'.setCells (w.heap.size+1+1) 0 ds.toList)=.ok (.agg ds) (W'.setCells (w.heap.size+1+1) 0 ds.toList))/\R ds W') :
  Calls Tryz.prog 170 #[.pointer none,.int .i64 w0] w fun e w'=>∃ ds,e=.returned (.agg ds)/\∃ W',R ds W'/\w'=W'.setCells (w.heap.size+1+1) 0 ds.toList:=by
 go_enter Tryz.func170,Tryz.ntmps170
 go_upto_region 1 with fail
 generalize hW:World.alloc _ _=W
 have T:Three w W (.pointer none) w0:=by
  subst hW
  exact three_of w _ w0 206 3
 have hc0:=T.c0
 clear hW
 obtain⟨k5,hd⟩:=hE W T
 go_upto_region 2 with fail
 refine wp_region ?_
 show wpOps Tryz.prog _ _ [0,1,2] _ _
 refine step1 (v:=.int .i64 w0) (w':=W) rfl rfl ?_ ?_
 ·show ((Instr.loadAt 3 (.pointer (some ⟨w.heap.size+1,0,none⟩))) >>= fun v=>pure (Next.value v):Sem Next).run _ _=_
  rw[Sem.run_bind,k5];rfl
 refine stepc (f:=132) (args := #[.int .i64 w0]) rfl rfl ?_ ?_
 ·exact run20 _ _ { callee:=.value (.func 132),args := #[.tmp 7],argTypes := #[3] } (.int .i64 w0) W rfl rfl (by simp[Act.eval,Act.put])
 refine hd.mono ?_
 rintro e W' ⟨ds,rfl,⟨k2,k3⟩,hR⟩
 refine⟨_,rfl,?_⟩
 refine step0 (w':=W'.setCells (w.heap.size+1+1) 0 ds.toList) rfl rfl ?_ ?_
 ·show ((Instr.storeAt 29 (.pointer (some ⟨w.heap.size+1+1,0,none⟩)) (.agg ds)) >>= fun _=>pure Next.skip:Sem Next).run _ _=_
  rw[Sem.run_bind,k2];rfl
 simp only[wpOps,Exit.then]
 refine ‹∀ (a:Act) (w:World),Code.wp _ Code.ret _ a w->_› _ _ ?_
 refine wp_ret ?_
 simp only[Exit.then]
 refine bodyPost_ret (results_run (vs:=[.agg ds]) (.cell ?_ .nil)) rfl ?_
 ·show ((asAddr (.pointer (some ⟨w.heap.size+1+1,0,none⟩))) >>= fun x=>loadVar 29 x:Sem Value).run _ _=_
  rw[Sem.run_bind]
  exact k3
 ·exact⟨ds,rfl,W',hR,rfl⟩
end Go.Proofs.OnceV
