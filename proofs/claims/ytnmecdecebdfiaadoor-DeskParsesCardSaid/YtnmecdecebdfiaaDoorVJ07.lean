/- V: VLoc, VReg, VDraw, VDraw2, VDraw3, VLay2 -/
import Derived.Test.YtnmecdecebdfiaaDoorVJ06
import Derived.Orders
set_option linter.unusedVariables false
set_option linter.unusedSimpArgs false
namespace Go.V
variable {U:Nat->Type}
section
variable {E:Env U} {s s':S U} {b:Nat} {o:Oper} {h h':Nat->AObj U}
mutual
theorem frz_local:∀ (q:A U),(∀ n∈(frzN h q).map (·.1),h' n=h n)->hole (frz h q)=false->frz h' q=frz h q/\frzN h' q=frzN h q
 | .own m,e,hh=>by
  cases hm:h m with
  | lst c l=>
   have e1:=e m (by simp[frzN,hm])
   rw[hm] at e1
   exact⟨by simp only[frz,e1,hm],by simp only[frzN,e1,hm]⟩
  | fz c l=>
   have e1:=e m (by simp[frzN,hm])
   rw[hm] at e1
   exact⟨by simp only[frz,e1,hm],by simp only[frzN,e1,hm]⟩
  | dead=>simp[frz,hm,hole] at hh
  | lp lf lid live vals j=>simp[frz,hm,hole] at hh
  | box x=>simp[frz,hm,hole] at hh
 | .agg l,e,hh=>by
  obtain⟨h1,h2⟩:=frzs_local l (by simpa[frzN] using e) (by simpa[frz,hole] using hh)
  exact⟨by simp only[frz,h1],by simp only[frzN,h2]⟩
 | .none,e,hh=>⟨rfl,rfl⟩
 | .tup l,e,hh=>⟨rfl,rfl⟩
 | .clo f l,e,hh=>⟨rfl,rfl⟩
 | .sub m c i len,e,hh=>⟨rfl,rfl⟩
 | .bsl m p c M i len,e,hh=>⟨rfl,rfl⟩
 | .ptr m p,e,hh=>⟨rfl,rfl⟩
 | .yld m,e,hh=>⟨rfl,rfl⟩
 | .tr c9 x9 p9,e,hh=>⟨rfl,rfl⟩
 | .iv x9,e,hh=>⟨rfl,rfl⟩
 | .gh g9,e,hh=>⟨rfl,rfl⟩
 | .int k m,e,hh=>⟨rfl,rfl⟩
 | .bool k,e,hh=>⟨rfl,rfl⟩
 | .str k,e,hh=>⟨rfl,rfl⟩
 | .nilp,e,hh=>⟨rfl,rfl⟩
 | .nilf,e,hh=>⟨rfl,rfl⟩
 | .nils c,e,hh=>⟨rfl,rfl⟩
 | .usl c l,e,hh=>⟨rfl,rfl⟩
 | .arr c k xs,e,hh=>⟨rfl,rfl⟩
 | .ro g c xs,e,hh=>⟨rfl,rfl⟩
 | .clip true c xs,e,hh=>⟨rfl,rfl⟩
 | .clip false c xs,e,hh=>⟨rfl,rfl⟩
 | .rp g c xs i p,e,hh=>⟨rfl,rfl⟩
theorem frzs_local:∀ (q:List (A U)),(∀ n∈(frzNs h q).map (·.1),h' n=h n)->holes (frzs h q)=false->frzs h' q=frzs h q/\frzNs h' q=frzNs h q
 | [],e,hh=>⟨rfl,rfl⟩
 | q::l,e,hh=>by
  simp only[frzs,holes,Bool.or_eq_false_iff] at hh
  simp only[frzNs,List.map_append,List.mem_append] at e
  obtain⟨h1,h2⟩:=frz_local q (fun n hn=>e n (.inl hn)) hh.1
  obtain⟨h3,h4⟩:=frzs_local l (fun n hn=>e n (.inr hn)) hh.2
  exact⟨by simp only[frzs,h1,h3],by simp only[frzNs,h2,h4]⟩
end
theorem content_local{q:Cont U}{y:A U}(hc:content E h y=some q)(e:∀ n∈q.rd,h' n=h n):content E h' y=some q:=by
 cases y with
 | own m=>
  simp only[content] at hc ⊢
  cases hm:h m with
  | lst c l=>rw[hm] at hc;simp only[Option.some.injEq] at hc;subst hc;rw[e m (by simp),hm]
  | fz c l=>rw[hm] at hc;simp only[Option.some.injEq] at hc;subst hc;rw[e m (by simp),hm]
  | dead=>rw[hm] at hc;simp at hc
  | lp lf lid live vals j=>rw[hm] at hc;simp at hc
  | box x=>rw[hm] at hc;simp at hc
 | sub m c i len=>
  simp only[content] at hc ⊢
  cases hm:h m with
  | lst c' l=>
   rw[hm] at hc;simp only[] at hc
   cases hb:Nat.beq c' c with
   | false=>rw[hb] at hc;simp at hc
   | true=>rw[hb] at hc;simp only[cond_true,Option.some.injEq] at hc;subst hc;rw[e m (by simp),hm];simp[hb]
  | fz c' l=>
   rw[hm] at hc;simp only[] at hc
   cases hb:Nat.beq c' c with
   | false=>rw[hb] at hc;simp at hc
   | true=>rw[hb] at hc;simp only[cond_true,Option.some.injEq] at hc;subst hc;rw[e m (by simp),hm];simp[hb]
  | dead=>rw[hm] at hc;simp at hc
  | lp lf lid live vals j=>rw[hm] at hc;simp at hc
  | box x=>rw[hm] at hc;simp at hc
 | bsl m p c M i len=>
  simp only[content] at hc ⊢
  cases hm:h m with
  | box x=>
   rw[hm] at hc;simp only[] at hc
   have:m∈q.rd:=by
    revert hc;simp only[Bool.cond_eq_ite];intro hc;(repeat' split at hc)<;>cases hc
    simp
   rw[e m this,hm];exact hc
  | lst c' l=>rw[hm] at hc;simp at hc
  | fz c' l=>rw[hm] at hc;simp at hc
  | dead=>rw[hm] at hc;simp at hc
  | lp lf lid live vals j=>rw[hm] at hc;simp at hc
 | _=>exact hc
theorem lenV_local(t:TypeId)(x:A U)(hne:lenV E s t x≠.bad)(hH:∀ n∈lookOf (lenV E s t x),s'.h n=s.h n):lenV E s' t x=lenV E s t x:=by
 unfold lenV at *
 cases ht:E.ty t with
 | sl e=>
  rw[ht] at hne hH
  cases x with
  | own m=>
   simp only[] at hne hH ⊢
   cases hm:s.h m with
   | lst c l=>rw[hm] at hH;rw[hH m (by simp[lookOf]),hm]
   | fz c l=>rw[hm] at hH;rw[hH m (by simp[lookOf]),hm]
   | dead=>rw[hm] at hne;exact absurd rfl hne
   | lp lf lid live vals j=>rw[hm] at hne;exact absurd rfl hne
   | box q=>rw[hm] at hne;exact absurd rfl hne
  | _=>rfl
 | _=>rfl
theorem cond_ne{α:Type}{c:Bool}{p q:α}(h:cond c p q≠q):c=true:=by cases c;exact absurd rfl h;rfl
theorem srcV_local{q:Cont U}{tx ty:TypeId}{y:A U}{h h':Nat->AObj U}(hc:srcV E h tx ty y=some q)(e:∀ n∈q.rd,h' n=h n):srcV E h' tx ty y=some q:=by
 unfold srcV at *
 cases ht:E.ty ty with
 | sl d=>rw[ht] at hc;exact content_local hc e
 | _=>rw[ht] at hc;exact hc
theorem appendV_local(tx ty:TypeId)(x y:A U)(hne:appendV E s b tx ty x y≠.bad)(hH:∀ n∈lookOf (appendV E s b tx ty x y),s'.h n=s.h n):appendV E s' b tx ty x y=appendV E s b tx ty x y:=by
 unfold appendV at *
 ·skip
  cases hc:srcV E s.h tx ty y with
  | none=>rw[hc] at hne;exact absurd rfl hne
  | some q=>
   rw[hc] at hne hH
   simp only[] at hne hH ⊢
   cases x with
   | nils c=>
    simp only[] at hne hH ⊢
    cases hs:slOf E tx c with
    | false=>rw[hs] at hne;exact absurd rfl hne
    | true=>
     rw[hs] at hne hH
     simp only[cond_true] at hne hH ⊢
     by_cases hq:q.c=c
     ·rw[dif_pos hq] at hH
      rw[srcV_local hc (fun n hn=>hH n (by simp[lookOf,hn]))]
     ·rw[dif_neg hq] at hne;exact absurd rfl hne
   | clip g c lx=>
    simp only[] at hne hH ⊢
    cases hs:slOf E tx c with
    | false=>rw[hs] at hne;exact absurd rfl hne
    | true=>
     rw[hs] at hne hH
     simp only[cond_true] at hne hH ⊢
     by_cases hq:q.c=c
     ·rw[dif_pos hq] at hH
      rw[srcV_local hc (fun n hn=>hH n (by simp[lookOf,hn]))]
     ·rw[dif_neg hq] at hne;exact absurd rfl hne
   | own m=>
    simp only[] at hne hH ⊢
    cases hm:s.h m with
    | lst c lx=>
     rw[hm] at hne hH
     simp only[] at hne hH ⊢
     cases hs:slOf E tx c with
     | false=>rw[hs] at hne;exact absurd rfl hne
     | true=>
      rw[hs] at hne hH
      simp only[cond_true] at hne hH ⊢
      by_cases hq:q.c=c
      ·rw[dif_pos hq] at hH
       rw[srcV_local hc (fun n hn=>hH n (by simp[lookOf,hn])),hH m (by simp[lookOf]),hm]
       simp only[hs,cond_true]
      ·rw[dif_neg hq] at hne;exact absurd rfl hne
    | fz c l=>rw[hm] at hne;exact absurd rfl hne
    | dead=>rw[hm] at hne;exact absurd rfl hne
    | lp lf lid live vals j=>rw[hm] at hne;exact absurd rfl hne
    | box q=>rw[hm] at hne;exact absurd rfl hne
   | _=>exact absurd rfl hne
theorem copyV_local(tx ty:TypeId)(x y:A U)(hne:copyV E s tx ty x y≠.bad)(hH:∀ n∈lookOf (copyV E s tx ty x y),s'.h n=s.h n):copyV E s' tx ty x y=copyV E s tx ty x y:=by
 unfold copyV at *
 cases ht:E.ty ty with
 | sl e=>
  rw[ht] at hne hH
  cases hc:content E s.h y with
  | none=>rw[hc] at hne;exact absurd rfl hne
  | some q=>
   rw[hc] at hne hH
   cases x with
   | bsl m p c n i len=>
    simp only[] at hne hH ⊢
    cases hm:s.h m with
    | box a=>
     rw[hm] at hne hH
     simp only[] at hne hH ⊢
     cases hg:getP E a p with
     | arr c' n' l=>
      rw[hg] at hne hH
      simp only[] at hne hH ⊢
      by_cases hq:q.c=c'
      ·rw[dif_pos hq] at hne hH
       cases hb:(slOf E tx c&&(Nat.beq c c'&&Nat.beq n n')) with
       | false=>rw[hb] at hne;exact absurd rfl hne
       | true=>
        rw[hb] at hne hH
        simp only[cond_true] at hne hH
        cases hs:setP E a p (.arr c' n' (splice l i (hq▸q.l) (Nat.min q.l.length len))) with
        | none=>rw[hs] at hne;exact absurd rfl hne
        | some a'=>
         rw[hs] at hH
         simp only[lookOf,List.mem_append,List.mem_cons] at hH
         rw[content_local hc (fun n hn=>hH n (.inl (.inr hn)))]
         simp only[]
         rw[hH m (.inl (.inl rfl)),hm]
         simp only[hg,dif_pos hq,hb,cond_true,hs]
      ·rw[dif_neg hq] at hne;exact absurd rfl hne
     | _=>rw[hg] at hne;exact absurd rfl hne
    | _=>rw[hm] at hne;exact absurd rfl hne
   | _=>exact absurd rfl hne
 | _=>rfl
theorem convV_local(src dst:TypeId)(x:A U)(hne:convV E s b src dst x≠.bad)(hH:∀ n∈lookOf (convV E s b src dst x),s'.h n=s.h n):convV E s' b src dst x=convV E s b src dst x:=by
 unfold convV at *
 cases ht:E.ty dst with
 | str=>
  rw[ht] at hne hH
  cases x with
  | str t=>rfl
  | _=>
   simp only[] at hne hH ⊢
   generalize hc:content E s.h _=q at hne hH ⊢
   cases q with
   | none=>exact absurd rfl hne
   | some q=>
    simp only[] at hne hH ⊢
    cases hs:slOf E src q.c with
    | false=>rw[hs] at hne;exact absurd rfl hne
    | true=>
     rw[hs] at hne hH
     simp only[cond_true] at hne hH ⊢
     cases hb:E.toBytes q.c q.l with
     | none=>rw[hb] at hne;exact absurd rfl hne
     | some t=>
      rw[hb] at hH
      rw[content_local hc (fun n hn=>hH n (by simp[lookOf,hn]))]
      simp only[hs,cond_true,hb]
 | _=>cases x<;>rfl
theorem evArgs_local:∀ (xs:List Operand) (ts:List TypeId),(∀ x∈xs,∀ t,s'.ev E t x=s.ev E t x)->evArgs E s' xs ts=evArgs E s xs ts
 | [],ts,h=>by cases ts<;>rfl
 | x::xs,[],h=>by simp only[evArgs,h x (by simp),evArgs_local xs [] (fun y hy=>h y (by simp[hy]))]
 | x::xs,t::ts,h=>by simp only[evArgs,h x (by simp),evArgs_local xs ts (fun y hy=>h y (by simp[hy]))]
theorem callV_local{c:Call}(hT:∀ x∈c.operands,∀ t,s'.ev E t x=s.ev E t x)(hne:callV E s b c≠.bad)(hH:∀ n∈lookOf (callV E s b c),s'.h n=s.h n):callV E s' b c=callV E s b c:=by
 have hA:∀ x∈c.args.toList,∀ t,s'.ev E t x=s.ev E t x:=fun x hx t=>hT x (by unfold Call.operands;exact Array.mem_append.2 (.inr (Array.mem_toList_iff.1 hx))) t
 have hE:=evArgs_local c.args.toList c.argTypes.toList hA
 unfold callV at *
 simp only[hE] at *
 cases hc:c.callee with
 | value g=>
  rw[hc] at hne hH
  simp only[] at hne hH ⊢
  rw[hT g (by unfold Call.operands;rw[hc];simp) 0]
  cases hg:s.ev E 0 g with
  | clo g' caps=>
   rw[hg] at hne hH
   simp only[] at hne hH ⊢
   cases hbl:Nat.blt (mfn g') 1000000 with
   | false=>rfl
   | true=>
   rw[hbl] at hne hH
   simp only[cond_true] at hne hH ⊢
   cases hpr:memN (mfn g') E.procs with
   | false=>rfl
   | true=>
    rw[hpr] at hne hH
    simp only[cond_true] at hne hH ⊢
    cases hle:memN (mfn g') E.lends with
    | true=>
     rw[hle] at hne hH
     simp only[cond_true] at hne hH ⊢
     cases hx:layG (upds s.h (lendAll E s.h (margs g' (evArgs E s c.args.toList c.argTypes.toList) caps)).2) b [] (lendAll E s.h (margs g' (evArgs E s c.args.toList c.argTypes.toList) caps)).1 with
     | none=>rw[hx] at hne;exact absurd rfl hne
     | some x=>
      rw[hx] at hH
      simp only[lookOf,List.mem_append] at hH
      rw[lendAll_congr (margs g' (evArgs E s c.args.toList c.argTypes.toList) caps) s.h s'.h fun m hm=>hH m (.inl hm)]
      rw[layG_congr hx fun m hm=>updsC _ _ _ (hH m (.inr (List.mem_append.1 hm)))]
    | false=>
    rw[hle] at hne hH
    simp only[cond_false] at hne hH ⊢
    cases hx:layG s.h b [] (margs g' (evArgs E s c.args.toList c.argTypes.toList) caps) with
    | none=>rw[hx] at hne;exact absurd rfl hne
    | some x=>
     rw[hx] at hH
     rw[layG_congr hx fun m hm=>hH m (by simpa[lookOf] using hm)]
  | yld n=>
   rw[hg] at hne hH
   simp only[] at hne hH ⊢
   cases hm:s.h n with
   | lp lf lk live vals j=>
    rw[hm] at hne hH
    cases j with
    | succ j=>exact absurd rfl hne
    | zero=>
     simp only[] at hne hH ⊢
     cases hx:layG s.h b [] (evArgs E s c.args.toList c.argTypes.toList++vals) with
     | none=>rw[hx] at hne;exact absurd rfl hne
     | some x=>
      rw[hx] at hH
      rw[hH n (by simp[lookOf]),hm]
      simp only[]
      rw[layG_congr hx fun m hm=>hH m (by simp only[lookOf];exact List.mem_cons_of_mem _ hm)]
   | _=>rw[hm] at hne;exact absurd rfl hne
  | _=>rfl
 | invoke r m=>rfl
 | builtin q=>
  rw[hc] at hne hH
  cases q with
  | len=>
   simp only[] at hne hH ⊢
   revert hne hH hA
   cases c.args.toList with
   | nil=>intro _ _ _;rfl
   | cons x l=>
    cases l with
    | nil=>
     cases c.argTypes.toList with
     | nil=>intro _ _ _;rfl
     | cons t ts=>intro hA hH hne;simp only[] at hne hH ⊢;rw[hA x (by simp) t];exact lenV_local t _ hne hH
    | cons y l=>intro _ _ _;rfl
  | copy=>
   simp only[] at hne hH ⊢
   revert hne hH hA
   generalize c.args.toList=xs
   generalize c.argTypes.toList=ts
   intro hA hH hne
   split at hne
   ·simp only[] at hH ⊢
    rw[hA _ (by simp),hA _ (by simp)]
    exact copyV_local _ _ _ _ hne hH
   ·exact absurd rfl hne
  | append=>
   simp only[] at hne hH ⊢
   revert hne hH hA
   generalize c.args.toList=xs
   generalize c.argTypes.toList=ts
   intro hA hH hne
   split at hne
   ·simp only[] at hH ⊢
    rw[hA _ (by simp),hA _ (by simp)]
    exact appendV_local _ _ _ _ hne hH
   ·exact absurd rfl hne
  | _=>rfl
theorem nilV_local{op:BinOp}{t:TypeId}{u:A U}{c:Nat}{y:Operand}(hne:nilV E s op t u c y≠.bad)(hH:∀ n∈lookOf (nilV E s op t u c y),s'.h n=s.h n):nilV E s' op t u c y=nilV E s op t u c y:=by
 unfold nilV at *
 split
 ·simp only[] at hne hH
  cases hb:(slOf E t c&&!isBsl u) with
  | false=>rfl
  | true=>
   rw[hb] at hne hH
   simp only[cond_true] at hne hH ⊢
   cases hc:content E s.h u with
   | none=>rw[hc] at hne;exact absurd rfl hne
   | some q=>
    rw[hc] at hne hH
    have hh:∀ n∈q.rd,s'.h n=s.h n:=by
     cases op with
     | eql=>intro n hn;exact hH n (by simpa[lookOf] using hn)
     | neq=>intro n hn;exact hH n (by simpa[lookOf] using hn)
     | _=>exact absurd rfl hne
    rw[content_local hc hh]
 ·rfl
theorem sliceV_local{t:TypeId}{x:A U}{lo hi mx:Option (A U)}(hne:sliceV E s t x lo hi mx≠.bad)(hH:∀ n∈lookOf (sliceV E s t x lo hi mx),s'.h n=s.h n):sliceV E s' t x lo hi mx=sliceV E s t x lo hi mx:=by
 unfold sliceV at *
 cases x with
 | own m=>
  cases mx with
  | some m'=>rfl
  | none=>
   simp only[] at hne hH ⊢
   cases hm:s.h m with
   | lst c l=>
    rw[hm] at hne hH
    simp only[] at hne hH ⊢
    have hc:=cond_ne hne
    rw[hc] at hne hH
    simp only[cond_true] at hne hH
    cases hl:optI 0 lo with
    | none=>rw[hl] at hne;exact absurd rfl hne
    | some i=>
     rw[hl] at hne hH
     cases hj:optI (l.length:Int) hi with
     | none=>rw[hj] at hne;exact absurd rfl hne
     | some j=>
      rw[hj] at hH
      rw[hH m (by simp[lookOf]),hm]
      simp only[hc,cond_true,hj]
   | fz c l=>
    rw[hm] at hne hH
    simp only[] at hne hH ⊢
    have hc:=cond_ne hne
    rw[hc] at hne hH
    simp only[cond_true] at hne hH
    cases hl:optI 0 lo with
    | none=>rw[hl] at hne;exact absurd rfl hne
    | some i=>
     rw[hl] at hne hH
     cases hj:optI (l.length:Int) hi with
     | none=>rw[hj] at hne;exact absurd rfl hne
     | some j=>
      rw[hj] at hH
      rw[hH m (by simp[lookOf]),hm]
      simp only[hc,cond_true,hj]
   | dead=>rw[hm] at hne;exact absurd rfl hne
   | lp lf lid live vals j=>rw[hm] at hne;exact absurd rfl hne
   | box q=>rw[hm] at hne;exact absurd rfl hne
 | sub m c k len=>
  cases mx with
  | some m'=>rfl
  | none=>
   simp only[] at hne hH ⊢
   cases hm:s.h m with
   | lst c' l=>
    rw[hm] at hne hH
    simp only[] at hne hH ⊢
    have hc:=cond_ne hne
    rw[hc] at hne hH
    simp only[cond_true] at hne hH
    cases hl:optI 0 lo with
    | none=>rw[hl] at hne;exact absurd rfl hne
    | some i=>
     rw[hl] at hne hH
     cases hj:optI (len:Int) hi with
     | none=>rw[hj] at hne;exact absurd rfl hne
     | some j=>
      rw[hj] at hH
      rw[hH m (by simp[lookOf]),hm]
   | fz c l=>rw[hm] at hne;exact absurd rfl hne
   | dead=>rw[hm] at hne;exact absurd rfl hne
   | lp lf lid live vals j=>rw[hm] at hne;exact absurd rfl hne
   | box q=>rw[hm] at hne;exact absurd rfl hne
 | ptr m p=>
  cases mx with
  | some m'=>rfl
  | none=>
   simp only[] at hne hH ⊢
   cases ht:E.ty t with
   | arr n e=>
    rw[ht] at hne hH
    cases hm:s.h m with
    | box q=>
     rw[hm] at hne hH
     cases hl:optI 0 lo with
     | none=>rw[hl] at hne;exact absurd rfl hne
     | some i=>
      rw[hl] at hne hH
      simp only[] at hne hH ⊢
      cases hj:optI (n:Int) hi with
      | none=>rw[hj] at hne;exact absurd rfl hne
      | some j=>
       rw[hj] at hne hH
       simp only[] at hne hH ⊢
       cases hb:isNo (E.ty e) with
       | true=>rw[hb] at hne;exact absurd rfl hne
       | false=>
        rw[hb] at hH
        rw[hH m (by simp[lookOf]),hm]
        simp only[hj,hb]
    | _=>rw[hm] at hne;exact absurd rfl hne
   | _=>rfl
 | _=>cases mx with
  | none=>rfl
  | some m'=>cases m'<;>rfl
theorem kconv_local{h h':Nat->AObj U}(q:A U)(e:∀ k∈krd q,h' k=h k):kconv E h' q=kconv E h q:=by
 by_cases hq:∃ m,q=.ptr m []
 ·obtain⟨m,rfl⟩:=hq
  simp only[kconv,e m (by simp[krd])]
 ·have key:∀ g:Nat->AObj U,kconv E g q=(q,[]):=fun g=>by
   unfold kconv
   split
   ·exact absurd ⟨_,rfl⟩ hq
   ·rfl
  rw[key,key]
theorem kconvs_local:∀ (l:List (A U)) {h h':Nat->AObj U},(∀ k∈krds l,h' k=h k)->kconvs E h' l=kconvs E h l
 | [],_,_,_=>rfl
 | q::l,h,h',e=>by
  simp only[krds,List.mem_append] at e
  simp only[kconvs,kconv_local q fun k hk=>e k (.inl hk)]
  rw[kconvs_local l fun k hk=>upds_congr _ (e k (.inr hk))]
set_option maxHeartbeats 2000000 in
theorem plan_local(hT:∀ x∈o.op.operands,∀ t,s'.ev E t x=s.ev E t x)(hne:plan E b o s≠.bad)(hH:∀ n∈lookOf (plan E b o s),s'.h n=s.h n):plan E b o s'=plan E b o s:=by
 cases ho:o.op with
 | call c=>
  simp only[plan,ho] at *
  exact callV_local hT hne hH
 | load t x=>
  have h1:=hT x (by rw[ho];simp[Op.operands])
  simp only[plan,ho,h1] at *
  cases hx:s.ev E 0 x with
  | ptr n p=>
   rw[hx] at hne hH
   simp only[] at hne hH ⊢
   have hc:=cond_ne hne
   rw[hc] at hH
   rw[hH n (by simp[lookOf])]
  | _=>rfl
 | store t x y=>
  have h1:=hT x (by rw[ho];simp[Op.operands])
  have h2:=hT y (by rw[ho];simp[Op.operands])
  simp only[plan,ho,h1,h2] at *
  cases hx:s.ev E 0 x with
  | ptr n p=>
   rw[hx] at hne hH
   simp only[] at hne hH ⊢
   cases hn:s.h n with
   | box a=>
    rw[hn] at hne hH
    simp only[] at hne hH ⊢
    have hc:=cond_ne hne
    rw[hc] at hne hH
    simp only[cond_true] at hne hH ⊢
    cases hs:setP E a p (kconv E s.h (s.ev E t y)).1 with
    | none=>rw[hs] at hne;exact absurd rfl hne
    | some a'=>
     rw[hs] at hH
     have hk:=kconv_local (E:=E) (h:=s.h) (h':=s'.h) (s.ev E t y) fun k hk=>hH k (by simp only[lookOf,List.mem_append];exact .inl (List.mem_cons_of_mem _ hk))
     rw[hH n (by simp[lookOf]),hn]
     simp only[hk,hc,cond_true,hs]
   | lst c l=>
    rw[hn] at hne hH
    simp only[] at hne hH ⊢
    have hc:=cond_ne hne
    rw[hc] at hne hH
    simp only[cond_true] at hne hH ⊢
    cases hs:setO E (.lst c l) p (frz s.h (s.ev E t y)) with
    | none=>rw[hs] at hne;exact absurd rfl hne
    | some a'=>
     rw[hs] at hH
     have hhole:hole (frz s.h (s.ev E t y))=false:=by
      simp only[Bool.and_eq_true,Bool.not_eq_true'] at hc
      exact hc.1.2
     obtain⟨f1,f2⟩:=frz_local (h:=s.h) (h':=s'.h) (s.ev E t y) (fun k hk=>hH k (by simp only[lookOf,List.mem_append];exact .inl (List.mem_cons_of_mem _ hk))) hhole
     rw[hH n (by simp[lookOf]),hn]
     simp only[f1,f2,hc,cond_true,hs]
   | dead=>rw[hn] at hne;exact absurd rfl hne
   | lp lf lid live vals j=>rw[hn] at hne;exact absurd rfl hne
   | fz c l=>rw[hn] at hne;exact absurd rfl hne
  | _=>rfl
 | indexAddr t x i=>
  have h1:=hT x (by rw[ho];simp[Op.operands])
  have h2:=hT i (by rw[ho];simp[Op.operands])
  simp only[plan,ho,h1,h2] at *
  cases hi:s.ev E 0 i with
  | int k n=>
   rw[hi] at hne hH
   simp only[] at hne hH ⊢
   cases hx:s.ev E t x with
   | own m=>
    rw[hx] at hne hH
    simp only[] at hne hH ⊢
    cases hm:s.h m with
    | lst c l=>rw[hm] at hne hH;simp only[] at hne hH ⊢;have hc:=cond_ne hne;rw[hc] at hH;rw[hH m (by simp[lookOf]),hm]
    | fz c l=>rw[hm] at hne hH;simp only[] at hne hH ⊢;have hc:=cond_ne hne;rw[hc] at hH;rw[hH m (by simp[lookOf]),hm]
    | dead=>rw[hm] at hne;exact absurd rfl hne
    | lp lf lid live vals j=>rw[hm] at hne;exact absurd rfl hne
    | box q=>rw[hm] at hne;exact absurd rfl hne
   | sub m c j len=>
    rw[hx] at hne hH
    simp only[] at hne hH ⊢
    cases hm:s.h m with
    | lst c l=>rw[hm] at hne hH;simp only[] at hne hH ⊢;have hc:=cond_ne hne;rw[hc] at hH;rw[hH m (by simp[lookOf]),hm]
    | fz c l=>rw[hm] at hne hH;simp only[] at hne hH ⊢;have hc:=cond_ne hne;rw[hc] at hH;rw[hH m (by simp[lookOf]),hm]
    | dead=>rw[hm] at hne;exact absurd rfl hne
    | lp lf lid live vals j=>rw[hm] at hne;exact absurd rfl hne
    | box q=>rw[hm] at hne;exact absurd rfl hne
   | _=>rfl
  | _=>rfl
 | build t ps=>
  have h1:∀ p∈ps.toList,∀ t,s'.ev E t p.2=s.ev E t p.2:=fun p hp=>hT p.2 (by rw[ho];simp only[Op.operands];exact List.mem_toArray.2 (List.mem_map_of_mem hp))
  have h2:∀ g:Nat->TypeId,(ps.toList.map fun p=>(p.1,s'.ev E (g p.1) p.2))=(ps.toList.map fun p=>(p.1,s.ev E (g p.1) p.2)):=fun g=>List.map_congr_left fun p hp=>by rw[h1 p hp]
  have h3:∀ c,(ps.toList.map fun p=>s'.ev E c p.2)=(ps.toList.map fun p=>s.ev E c p.2):=fun g=>List.map_congr_left fun p hp=>by rw[h1 p hp]
  simp only[plan,ho,h2,h3] at *
  cases hz:zero E t with
  | arr c n z=>
   rw[hz] at hne hH
   simp only[] at hne hH ⊢
   cases ht:E.ty t with
   | arr n' c'=>
    rw[ht] at hne hH
    simp only[] at hne hH ⊢
    have hc:=cond_ne hne
    rw[hc] at hne hH
    simp only[cond_true] at hne hH ⊢
    cases hs:setParts E (z.map (E.enc c)) ((ps.toList.map (·.1)).zip (frzs s.h (ps.toList.map fun p=>s.ev E c p.2))) with
    | none=>rw[hs] at hne;exact absurd rfl hne
    | some l=>
     rw[hs] at hne hH
     simp only[] at hne hH ⊢
     cases hd:decs E c l with
     | none=>rw[hd] at hne;exact absurd rfl hne
     | some l'=>
      rw[hd] at hne hH
      simp only[] at hne hH ⊢
      cases hb:(holes (frzs s.h (ps.toList.map fun p=>s.ev E c p.2))||(isNo (E.ty c)||Nat.beq (E.sz c) 0)) with
      | true=>rw[hb] at hne;exact absurd rfl hne
      | false=>
       rw[hb] at hH
       simp only[cond_false] at hH
       have hb1:=hb
       simp only[Bool.or_eq_false_iff] at hb1
       obtain⟨f1,f2⟩:=frzs_local (h:=s.h) (h':=s'.h) (ps.toList.map fun p=>s.ev E c p.2) (fun k hk=>hH k (by simp only[lookOf,List.mem_append];exact .inl hk)) hb1.1
       simp only[hc,cond_true,f1,f2,hs,hd,hb,cond_false]
   | _=>rfl
  | agg z=>
   rw[hz] at hne hH
   simp only[] at hne hH ⊢
   cases ht:E.ty t with
   | st fs=>
    rw[ht] at hne hH
    simp only[] at hne hH ⊢
    have h4:(ps.toList.map fun p=>s'.ev E (fieldTy fs p.1) p.2)=(ps.toList.map fun p=>s.ev E (fieldTy fs p.1) p.2):=List.map_congr_left fun p hp=>by rw[h1 p hp]
    have hc:=cond_ne hne
    rw[hc] at hne hH
    simp only[cond_true] at hne hH ⊢
    cases hs:setParts E z ((ps.toList.map (·.1)).zip (kconvs E s.h (ps.toList.map fun p=>s.ev E (fieldTy fs p.1) p.2)).1) with
    | none=>rw[hs] at hne;exact absurd rfl hne
    | some l=>
     rw[hs] at hH
     have hk:=kconvs_local (E:=E) (h:=s.h) (h':=s'.h) (ps.toList.map fun p=>s.ev E (fieldTy fs p.1) p.2) fun k hk=>hH k (by simp only[lookOf,List.mem_append];exact .inl hk)
     simp only[h4,hk,hc,cond_true,hs]
   | _=>rfl
  | _=>rfl
 | buildSlice t n ps=>
  have h1:∀ p∈ps.toList,∀ t,s'.ev E t p.2=s.ev E t p.2:=fun p hp=>hT p.2 (by rw[ho];simp only[Op.operands];exact List.mem_toArray.2 (List.mem_map_of_mem hp))
  have h3:∀ c,(ps.toList.map fun p=>s'.ev E c p.2)=(ps.toList.map fun p=>s.ev E c p.2):=fun g=>List.map_congr_left fun p hp=>by rw[h1 p hp]
  simp only[plan,ho,h3] at *
  cases ht:E.ty t with
  | sl e=>
   rw[ht] at hne hH
   simp only[] at hne hH ⊢
   cases hz:(Nat.beq n 0&&ps.toList.isEmpty) with
   | true=>rfl
   | false=>
   rw[hz] at hne hH
   simp only[cond_false] at hne hH ⊢
   cases hs:setParts E ((List.replicate n (E.dflt e)).map (E.enc e)) ((ps.toList.map (·.1)).zip (frzs s.h (ps.toList.map fun p=>s.ev E e p.2))) with
   | none=>rw[hs] at hne;exact absurd rfl hne
   | some l=>
    rw[hs] at hne hH
    simp only[] at hne hH ⊢
    cases hd:decs E e l with
    | none=>rw[hd] at hne;exact absurd rfl hne
    | some l'=>
     rw[hd] at hne hH
     simp only[] at hne hH ⊢
     cases hb:(holes (frzs s.h (ps.toList.map fun p=>s.ev E e p.2))||(isNo (E.ty e)||(Nat.beq (n*E.sz e) 0||Nat.blt 16777216 (n*E.sz e)))) with
     | true=>rw[hb] at hne;exact absurd rfl hne
     | false=>
      rw[hb] at hH
      simp only[cond_false] at hH
      have hb1:=hb
      simp only[Bool.or_eq_false_iff] at hb1
      obtain⟨f1,f2⟩:=frzs_local (h:=s.h) (h':=s'.h) (ps.toList.map fun p=>s.ev E e p.2) (fun k hk=>hH k (by simp only[lookOf,List.mem_append];exact .inl hk)) hb1.1
      simp only[f1,f2,hs,hd,hb,cond_false]
  | _=>rfl
 | makeFunc fn first caps=>
  have h1:(caps.toList.map fun x=>s'.ev E 0 x)=(caps.toList.map fun x=>s.ev E 0 x):=List.map_congr_left fun x hx=>hT x (by rw[ho];simp only[Op.operands];exact Array.mem_append.2 (.inr (Array.mem_toList_iff.1 hx))) 0
  have h2:(first.toList.map fun x=>s'.ev E 0 x)=(first.toList.map fun x=>s.ev E 0 x):=List.map_congr_left fun x hx=>hT x (by rw[ho];simp only[Op.operands];exact Array.mem_append.2 (.inl (by first|exact Array.mem_toList_iff.1 hx|exact Array.mem_append.2 (.inr (Array.mem_toList_iff.1 hx))))) 0
  cases fn<;>simp only[plan,ho,h1,h2]
 | unOp op t x=>
  have h1:=hT x (by rw[ho];simp[Op.operands])
  cases op<;>simp only[plan,ho,h1]
 | convert t d x=>
  have h1:=hT x (by rw[ho];simp[Op.operands])
  simp only[plan,ho,h1] at *
  cases hn:isNo (E.ty t) with
  | true=>rfl
  | false=>
   rw[hn] at hne hH
   simp only[cond_false] at hne hH ⊢
   exact convV_local _ _ _ hne hH
 | move x=>have h1:=hT x (by rw[ho];simp[Op.operands]);simp only[plan,ho,h1]
 | assign x=>have h1:=hT x (by rw[ho];simp[Op.operands]);simp only[plan,ho,h1]
 | box t x=>have h1:=hT x (by rw[ho];simp[Op.operands]);simp only[plan,ho,h1]
 | nilCheck x=>have h1:=hT x (by rw[ho];simp[Op.operands]);simp only[plan,ho,h1]
 | makeInterface t x=>have h1:=hT x (by rw[ho];simp[Op.operands]);simp only[plan,ho,h1]
 | typeAssert x xt t c=>have h1:=hT x (by rw[ho];simp[Op.operands]);cases c<;>simp only[plan,ho,h1]
 | extract x i=>have h1:=hT x (by rw[ho];simp[Op.operands]);simp only[plan,ho,h1]
 | fieldAddr t x k=>have h1:=hT x (by rw[ho];simp[Op.operands]);simp only[plan,ho,h1]
 | field t x k=>have h1:=hT x (by rw[ho];simp[Op.operands]);simp only[plan,ho,h1]
 | pick c x y=>
  have h1:=hT x (by rw[ho];simp[Op.operands])
  have h2:=hT y (by rw[ho];simp[Op.operands])
  have h3:=hT c (by rw[ho];simp[Op.operands])
  simp only[plan,ho,h1,h2,h3]
 | index t x i=>
  have h1:=hT x (by rw[ho];simp[Op.operands])
  have h2:=hT i (by rw[ho];simp[Op.operands])
  simp only[plan,ho,h1,h2]
 | binOp op t x y ty=>
  have h1:=hT x (by rw[ho];simp[Op.operands])
  have h2:=hT y (by rw[ho];simp[Op.operands])
  simp only[plan,ho,h1,h2] at *
  revert hne hH
  generalize s.ev E t x=u
  generalize s.ev E ty y=v
  intro hne hH
  cases v with
  | nils c=>cases u<;>exact nilV_local hne hH
  | iv z=>cases z<;>cases u<;>first|rfl|(rename_i z;cases z<;>rfl)
  | _=>cases u<;>rfl
 | slice t x lo hi mx=>
  have h1:=hT x (by rw[ho];simp[Op.operands])
  have h2:∀ z:Option Operand,(∀ y,z=some y->y∈o.op.operands)->z.map (s'.ev E 0)=z.map (s.ev E 0):=fun z hz=>by
   cases z with
   | none=>rfl
   | some y=>simp only[Option.map_some,hT y (hz y rfl)]
  have hlo:=h2 lo (fun y e=>by subst e;rw[ho];simp[Op.operands])
  have hhi:=h2 hi (fun y e=>by subst e;rw[ho];simp[Op.operands])
  have hmx:=h2 mx (fun y e=>by subst e;rw[ho];simp[Op.operands])
  simp only[plan,ho,h1,hlo,hhi,hmx] at *
  exact sliceV_local hne hH
 | alloc t=>simp only[plan,ho]
 | _=>simp only[plan,ho]
end
end Go.V

set_option linter.unusedVariables false
set_option linter.unusedSimpArgs false
namespace Go.V
variable {U:Nat->Type}
section
variable {E:Env U} {w:World} {St:Ck U->Nat->Prop} {ι:Nat->Option Value} {s:S U} {N:Nat} {a:Act} {b:Nat} {o:Oper}
abbrev Ini:=Nat×(Nat->Option Value)×List (Nat×Obj)
structure Inv (E:Env U) (N:Nat) (w0:World) (St0:Ck U->Nat->Prop) (O0:Nat->Prop) (ι0:Ini) (s:S U) (tm:Array Value) (w:World) (ι:Nat->Option Value) (St:Ck U->Nat->Prop):Prop where
 rel:Rel E s N tm w ι St
 fr:Fr (fun B=>O0 B\/KnB St0 B) w0 w
 own:∀ B,Own s ι B->O0 B\/w0.heap.size<=B
 gr:∀ g B,St g B->St0 g B\/O0 B\/w0.heap.size<=B
 old:∀ n,n<s.nb->ι n=ι0.2.1 n
 nbx:s.nb<=s.nx
 nbe:s.nb=ι0.1
 hid:∀ x∈ι0.2.2,w.heap[x.1]?=some x.2/\¬Own s ι x.1/\¬An St x.1/\(O0 x.1\/w0.heap.size<=x.1)
 hnd:(ι0.2.2.map (·.1)).Nodup
 kn:∀ c x B,St0 (.kn c x) B->St (.kn c x) B
variable {ro:Option Nat}
variable {w0:World} {St0:Ck U->Nat->Prop} {O0:Nat->Prop} {ι0:Ini}
theorem Inv.step(I:Inv E N w0 St0 O0 ι0 s a.tmps w ι St)(hb:s.nb<=b){dst:Option Nat}{wr:List (Nat×AObj U)}{v:A U}{tm':Array Value}{w':World}{ι':Nat->Option Value}{St':Ck U->Nat->Prop}(h:Stp E s N w ι St b dst wr v tm' w' ι' St') :
  Inv E N w0 St0 O0 ι0 (s.put wr dst v) tm' w' ι' St':=
 ⟨h.rel,⟨Nat.le_trans I.fr.size h.fr.size,fun B hB ho0=>(h.fr.same B (Nat.lt_of_lt_of_le hB I.fr.size) (fun ho=>ho.elim (fun ho=>(I.own B ho).elim (fun h=>ho0 (.inl h)) fun h=>absurd h (by omega)) fun ⟨c,x,hk⟩=>(I.gr _ B hk).elim (fun h=>ho0 (.inr ⟨c,x,h⟩)) fun h=>h.elim (fun h=>ho0 (.inl h)) fun h=>absurd h (by omega))).trans (I.fr.same B hB ho0),h.fr.out.trans I.fr.out,h.fr.os.trans I.fr.os,h.fr.tape.trans I.fr.tape,I.fr.drn.elim .inl fun a=>h.fr.drn.imp id (Nat.le_trans a)⟩,
  fun B hB=>(h.own B hB).elim (I.own B) fun h=>.inr (Nat.le_trans I.fr.size h),fun g B hB=>by
  rcases h.gr g B hB with h|h|h
  ·exact I.gr g B h
  ·exact .inr (I.own B h)
  ·exact .inr (.inr (Nat.le_trans I.fr.size h)),fun n hn=>by
  have hn':n<s.nb:=hn
  rw[<-I.old n hn']
  cases hι:ι n with
  | some u=>exact h.nm n u hι
  | none=>
   cases hι':ι' n with
   | none=>rfl
   | some u=>
    rcases h.new n (by rw[hι'];simp) with h|h
    ·exact absurd hι h
    ·omega,I.nbx,I.nbe,fun x hx=>by
  obtain⟨h1,h2,h3,h4⟩:=I.hid x hx
  have hlt:=(Array.getElem?_eq_some_iff.1 h1).1
  refine⟨(h.fr.same _ hlt fun ho=>ho.elim h2 fun hk=>h3 hk.an).trans h1,fun ho=>?_,fun ⟨g,hg⟩=>?_,h4⟩
  ·rcases h.own _ ho with h|h
   ·exact h2 h
   ·omega
  ·rcases h.gr g _ hg with h|h|h
   ·exact h3 ⟨g,h⟩
   ·exact h2 h
   ·omega,I.hnd,fun c x B hB=>h.kn c x B (I.kn c x B hB)⟩
theorem rel_undef{tm:Array Value}(R:Rel E s N tm w ι St)(d:Nat):Rel E { s with t:=upd s.t d (.tup []) } N (tm.setIfInBounds d undef) w ι St:=by
 refine⟨by simp[R.tsz],fun e=>?_,R.obj,R.dis,R.stb,R.apt,R.sup⟩
 have hu:RT E w St ι (.tup []) undef:=⟨#[],rfl,trivial⟩
 show RT E w St ι (upd s.t d (.tup []) e) _
 rw[getD_put]
 by_cases h:e=d
 ·subst h
  rw[upd_same]
  by_cases hs:e<tm.size
  ·rw[if_pos ⟨rfl,hs⟩];exact hu
  ·rw[if_neg (fun x=>hs x.2)]
   have:tm.getD e undef=undef:=by rw[Array.getD_eq_getD_getElem?,Array.getElem?_eq_none (by omega)];rfl
   rw[this];exact hu
 ·rw[upd_ne _ _ h,if_neg (fun x=>h x.1.symm)]
  exact R.tmp e
theorem Inv.skip(I:Inv E N w0 St0 O0 ι0 s a.tmps w ι St)(dst:Option Nat):Inv E N w0 St0 O0 ι0 (s.put [] dst (.tup [])) (a.put dst undef).tmps w ι St:=by
 refine⟨?_,I.fr,I.own,I.gr,I.old,I.nbx,I.nbe,I.hid,I.hnd,I.kn⟩
 cases dst with
 | none=>exact I.rel
 | some d=>exact rel_undef I.rel d
theorem Inv.drew(I:Inv E N w0 St0 O0 ι0 s a.tmps w ι St):Inv E N w0 St0 O0 ι0 s a.tmps { w with drawn:=w.drawn+1 } ι St:=
 ⟨I.rel.world (Nat.le_refl _) (fun _ _=>rfl) (fun _ _ _ _=>rfl),⟨I.fr.size,I.fr.same,I.fr.out,I.fr.os,I.fr.tape,I.fr.drn.imp id Nat.le_succ_of_le⟩,I.own,I.gr,I.old,I.nbx,I.nbe,I.hid,I.hnd,I.kn⟩
theorem put_same{d:Nat}{v:A U}(h:s.t d=v):s.put [] (some d) v=s:=by
 subst h
 cases s with
 | mk t h nx nb=>simp only[S.put,upds,upd_self]
theorem undef_ne_bool(c:Bool):(undef:Value)≠.bool c:=by unfold undef;intro h;cases h
theorem Rel.bool_at{tm:Array Value}(R:Rel E s N tm w ι St){d:Nat}{c:Bool}(h:s.t d=.bool c):tm[d]?=some (.bool c):=by
 have h0:=R.tmp d
 rw[h] at h0
 have h1:=RV.bool_inv h0
 cases hd:tm[d]? with
 | none=>rw[Array.getD_eq_getD_getElem?,hd] at h1;exact absurd h1 (undef_ne_bool c)
 | some v=>rw[Array.getD_eq_getD_getElem?,hd] at h1;simpa using h1
theorem wanted_of(R:Rel E s N a.tmps w ι St){ops:Array Oper}{j:Nat}{want:Bool}{d:Nat}{c:Bool}(hg:o.guard=some (j,want))(hd:guardTmp ops.toList o=some d)(hs:s.t d=.bool c) :
  Region.wanted o (yielded ops a.tmps)=(c==want):=by
 unfold guardTmp at hd
 rw[hg] at hd
 simp only[Array.getElem?_toList] at hd
 unfold Region.wanted yielded
 rw[hg]
 cases hj:ops[j]? with
 | none=>rw[hj] at hd;simp at hd
 | some og=>
  rw[hj] at hd
  simp only[] at hd
  simp only[hj,Option.bind_some,hd,R.bool_at hs]
  cases c<;>cases want<;>rfl
theorem wanted_no(R:Rel E s N a.tmps w ι St){ops:Array Oper}{j:Nat}{want:Bool}{d:Nat}(hg:o.guard=some (j,want))(hd:guardTmp ops.toList o=some d)(hs:s.t d=.tup []) :
  Region.wanted o (yielded ops a.tmps)=false:=by
 have h0:=R.tmp d
 rw[hs] at h0
 obtain⟨vs,h1,-⟩:=h0
 unfold guardTmp at hd
 rw[hg] at hd
 simp only[Array.getElem?_toList] at hd
 unfold Region.wanted yielded
 rw[hg]
 cases hj:ops[j]? with
 | none=>rw[hj] at hd;simp at hd
 | some og=>
  rw[hj] at hd
  simp only[] at hd
  simp only[hj,Option.bind_some,hd]
  cases ht:a.tmps[d]? with
  | none=>rfl
  | some v=>
   rw[Array.getD_eq_getD_getElem?,ht] at h1
   simp only[Option.getD_some] at h1
   subst h1
   rfl
theorem vop_step(ok:EnvOk2 E){T:Tab U}(TS:TSound E T)(R:Rel E s N a.tmps w ι St){i:Nat}{sV:S U}(hf:∀ m,sV.nm i<=m->m<sV.nm i+100->ι m=none)(hd:∀ d,o.dst=some d->d<N)
  (hp:plan E (sV.nm i) o s=plan E (sV.nm i) o sV) (hg:∀ m∈lookOf (plan E (sV.nm i) o sV),sV.h m=s.h m) {K:S U->Prop} (hv:vop E T i o sV K)
  {next:Act->World->Prop} {Q:Exit->Act->World->Prop} (h:∀ wr v u w' ι' St',K (sV.put wr o.dst v)->(∀ x∈wr,x.1∈wrOf (plan E (sV.nm i) o sV)\/(sV.nm i<=x.1/\x.1<sV.nm i+100)) →
   Stp E s N w ι St (sV.nm i) o.dst wr v (a.put o.dst u).tmps w' ι' St'->next (a.put o.dst u) w'):o.wpIn (FR ro) 0 E.P a w next Q:=by
 unfold vop at hv
 cases hpl:plan E (sV.nm i) o sV with
 | bad=>rw[hpl] at hv;exact hv.elim
 | call f args look=>
  rw[hpl] at hv
  exact call_step ok TS R hf hd (hp.trans hpl) (by rw[hpl] at hg;exact hg) hv (fun wr v u w' ι' St' hk hn hs=>h wr v u w' ι' St' hk (by rw[hpl];exact hn) hs)
 | yield n f id vals args look=>
  rw[hpl] at hv
  exact yield_step ok TS R hf hd (hp.trans hpl) (by rw[hpl] at hg;exact hg) hv (fun wr v u w' ι' St' hk hn hs=>h wr v u w' ι' St' hk (by rw[hpl];exact hn) hs)
 | any q rd neg=>
  rw[hpl] at hv
  exact any_step ok R hd (hp.trans hpl) hv (fun c u w' ι' St' hk hs=>h [] _ u w' ι' St' hk (fun x hx=>by cases hx) hs)
 | knot b' v0=>
  rw[hpl] at hv
  simp only[] at hv
  cases hkb:knotBox 0 v0 with
  | none=>rw[hkb] at hv;exact hv.elim
  | some y0=>
   rw[hkb] at hv
   obtain⟨g,hv⟩:=hv
   obtain⟨y,hy⟩:=knotBox_get (g':=g) hkb
   rw[hy] at hv
   exact op_step ok R hf hd (.inr ⟨rfl,rfl,b',v0,g,y,hp.trans hpl,hy,rfl,rfl⟩) (fun p h=>by cases h) (fun u w' ι' St' hs=>h _ _ u w' ι' St' hv (fun x hx=>.inl (by
    rw[hpl]
    simp only[List.mem_cons,List.not_mem_nil,or_false] at hx
    subst hx
    simp[wrOf])) hs)
 | done pre rd wr v=>
  have hk:(∀ p,pre=some p->p)/\K (sV.put wr o.dst v):=by
   rw[hpl] at hv
   cases pre with
   | none=>exact⟨fun p hp=>by simp at hp,hv⟩
   | some q=>exact⟨fun p hp=>by obtain rfl:=Option.some.inj hp;exact hv.1,hv.2⟩
  exact op_step ok R hf hd (.inl (hp.trans hpl)) hk.1 (fun u w' ι' St' hs=>h wr v u w' ι' St' hk.2 (by rw[hpl];exact fun x hx=>.inl (List.mem_map_of_mem hx)) hs)
theorem vops_sound(ok:EnvOk2 E){T:Tab U}(TS:TSound E T){ops:Array Oper}{Q:Exit->Act->World->Prop}:∀ (l:List Oper) (i:Nat) (s:S U) (a:Act) (w:World) (ι:Nat->Option Value) (St:Ck U->Nat->Prop) (K:S U->Prop),
  (∀ k o,l[k]?=some o->ops[i+k]?=some o)->(∀ o∈l,∀ d,o.dst=some d->d<N)->Inv E N w0 St0 O0 ι0 s a.tmps w ι St->(∀ m,s.nm i<=m->ι m=none)->vops E T ops.toList (enum i l) s K →
  (∀ s' a' w' ι' St',K s'->Inv E N w0 St0 O0 ι0 s' a'.tmps w' ι' St'->(∀ m,s'.nm (i+l.length)<=m->ι' m=none)->s'.nx=s.nx->a'.defers=a.defers->Q .normal a' w') →
  wpOpsIn (FR ro) 0 E.P ops Q (List.range' i l.length) a w
 | [],i,s,a,w,ι,St,K,ho,hd,I,hf,hv,H=>H s a w ι St hv I hf rfl rfl
 | o::l,i,s,a,w,ι,St,K,ho,hd,I,hf,hv,H=>by
  have hi:=ho 0 o rfl
  simp only[Nat.add_zero] at hi
  have ho':∀ k o',l[k]?=some o'->ops[i+1+k]?=some o':=fun k o' h=>by
   have:=ho (k+1) o' (by simpa using h)
   rw[<-this];congr 1;omega
  have hd':∀ o∈l,∀ d,o.dst=some d->d<N:=fun x hx=>hd x (List.mem_cons_of_mem _ hx)
  have hdo:=hd o (by simp)
  have hH:∀ a1:Act,a1.defers=a.defers->∀ s' a' w' ι' St',K s'->Inv E N w0 St0 O0 ι0 s' a'.tmps w' ι' St'->(∀ m,s'.nm (i+1+l.length)<=m->ι' m=none)->s'.nx=s.nx->a'.defers=a1.defers->Q .normal a' w':=fun a1 h1 s' a' w' ι' St' hk hI hf hn hdf=>
   H s' a' w' ι' St' hk hI (by simpa[Nat.add_assoc,Nat.add_comm 1] using hf) hn (hdf.trans h1)
  have hput:∀ v,(a.put o.dst v).defers=a.defers:=fun v=>by cases o.dst<;>rfl
  simp only[List.length_cons,List.range'_succ,wpOpsIn,hi]
  simp only[enum,vops] at hv
  have run:vop E T i o s (fun s'=>vops E T ops.toList (enum (i+1) l) s' K)->o.wpIn (FR ro) 0 E.P a w (wpOpsIn (FR ro) 0 E.P ops Q (List.range' (i+1) l.length)) Q:=by
   intro hv
   refine vop_step ok TS I.rel (fun m h1 h2=>hf m h1) hdo rfl (fun _ _=>rfl) hv (fun wr v u w' ι' St' hk hn hs=>?_)
   refine vops_sound ok TS l (i+1) _ (a.put o.dst u) w' ι' St' K ho' hd' (I.step (Nat.le_trans I.nbx (Nat.le_add_right _ _)) hs) (fun m hm=>?_) hk (hH _ (hput u))
   cases hm':ι' m with
   | none=>rfl
   | some x=>
    exfalso
    simp only[S.nm,S.put] at hm
    rcases hs.new m (by rw[hm'];simp) with h|h
    ·exact h (hf m (by simp only[S.nm];omega))
    ·simp only[S.nm] at h;omega
  have skip:vops E T ops.toList (enum (i+1) l) (s.put [] o.dst (.tup [])) K->wpOpsIn (FR ro) 0 E.P ops Q (List.range' (i+1) l.length) (a.put o.dst undef) w:=by
   intro hv
   exact vops_sound ok TS l (i+1) _ (a.put o.dst undef) w ι St K ho' hd' (I.skip o.dst) (fun m hm=>hf m (by simp only[S.nm,S.put] at hm ⊢;omega)) hv (hH _ (hput undef))
  cases hg:o.guard with
  | none=>
   rw[hg] at hv
   have:Region.wanted o (yielded ops a.tmps)=true:=by unfold Region.wanted;rw[hg]
   rw[if_pos this]
   exact run hv
  | some jw=>
   obtain⟨j,want⟩:=jw
   rw[hg] at hv
   simp only[] at hv
   cases hj:ops.toList[j]? with
   | none=>rw[hj] at hv;exact hv.elim
   | some og=>
    rw[hj] at hv
    simp only[] at hv
    cases hdg:og.dst with
    | none=>rw[hdg] at hv;exact hv.elim
    | some d=>
     rw[hdg] at hv
     simp only[] at hv
     cases hsd:s.t d with
     | bool c=>
      rw[hsd] at hv
      have hw:=wanted_of I.rel (ops:=ops) hg (d:=d) (by unfold guardTmp;rw[hg];simp only[hj,hdg]) hsd
      rw[hw]
      cases c with
      | true=>
       simp only[cond_true,put_same hsd] at hv
       cases want with
       | true=>exact run hv
       | false=>simp only[cond_false] at hv;exact⟨fun _ _=>trivial,skip hv⟩
      | false=>
       simp only[cond_false,put_same hsd] at hv
       cases want with
       | true=>simp only[cond_true] at hv;exact⟨fun _ _=>trivial,skip hv⟩
       | false=>exact run hv
     | tup l=>
      cases l with
      | nil=>
       rw[hsd] at hv
       have hw:=wanted_no I.rel (ops:=ops) hg (d:=d) (by unfold guardTmp;rw[hg];simp only[hj,hdg]) hsd
       rw[hw]
       exact⟨fun _ _=>trivial,skip hv⟩
      | cons _ _=>rw[hsd] at hv;exact hv.elim
     | _=>rw[hsd] at hv;exact hv.elim
end
end Go.V

set_option linter.unusedVariables false
set_option linter.unusedSimpArgs false
namespace Go.V
variable {U:Nat->Type}
theorem apartN_iff{l:List Nat}:∀ {r:List Nat},apartN l r=true↔∀ n∈r,n∉l
 | []=>by simp[apartN]
 | n::r=>by simp only[apartN,Bool.and_eq_true,Bool.not_eq_true',memN_false,apartN_iff (r:=r),List.mem_cons,forall_eq_or_imp]
theorem outs_iff{b:Nat}:∀ {r:List Nat},outs b r=true↔∀ n∈r,n<b\/b+100<=n
 | []=>by simp[outs]
 | n::r=>by
  simp only[outs,Bool.and_eq_true,Bool.or_eq_true,outs_iff (r:=r),List.mem_cons,forall_eq_or_imp,Nat.blt_eq,Nat.ble_eq]
theorem apartT_spec{ops:List Oper}{x y:Oper}(h:apartT ops x y=true) :
  (∀ d,x.dst=some d->d∉uses ops y)/\(∀ d,x.dst=some d->y.dst≠some d)/\(∀ e,y.dst=some e->e∉uses ops x):=by
 unfold apartT at h
 simp only[Bool.and_eq_true] at h
 obtain⟨h1,h2⟩:=h
 refine⟨fun d hd=>?_,fun d hd he=>?_,fun e he=>?_⟩
 ·rw[hd] at h1
  simp only[Bool.and_eq_true,Bool.not_eq_true',memN_false] at h1
  exact h1.1
 ·rw[hd,he] at h1
  simp at h1
 ·rw[he] at h2
  simpa[memN_false] using h2
theorem clear_spec{ops:List Oper}{b:Nat}{bef:List Nat}{o:Oper}{look wr:List Nat}:∀ {acc:List Ahead},clear ops b bef o look wr acc=true->∀ q∈acc,
  q.i∈bef\/(apartT ops q.o o=true/\(∀ n∈q.look,n∉wr)/\(∀ n∈q.wr,n∉look)/\(∀ n∈q.look,n<b\/b+100<=n))
 | [],h,q,hq=>by cases hq
 | p::l,h,q,hq=>by
  simp only[clear,Bool.and_eq_true,Bool.or_eq_true,memN_iff,apartN_iff,outs_iff] at h
  rcases List.mem_cons.1 hq with rfl|hq
  ·exact h.1
  ·exact clear_spec h.2 q hq
section
variable {α:Type}
theorem upds_in{f g:Nat->α}{n:Nat}:∀ {l:List (Nat×α)},n∈l.map (·.1)->upds f l n=upds g l n:=by
 intro l
 induction l generalizing f g with
 | nil=>intro h;simp at h
 | cons x l ih=>
  intro h
  simp only[upds]
  by_cases hn:n∈l.map (·.1)
  ·exact ih hn
  ·simp only[List.map_cons,List.mem_cons] at h
   rcases h with rfl|h
   ·rw[upds_notin hn,upds_notin hn,upd_same,upd_same]
   ·exact absurd h hn
theorem upds_comm(f:Nat->α){l m:List (Nat×α)}(h:∀ n∈l.map (·.1),n∉m.map (·.1)):upds (upds f l) m=upds (upds f m) l:=by
 funext n
 by_cases hl:n∈l.map (·.1)
 ·rw[upds_notin (h n hl),upds_in hl]
 ·rw[upds_notin hl]
  by_cases hm:n∈m.map (·.1)
  ·exact upds_in hm
  ·rw[upds_notin hm,upds_notin hm,upds_notin hl]
end
theorem put_comm(s:S U){wr wr':List (Nat×AObj U)}{d d':Option Nat}{v v':A U}(hd:∀ x,d=some x->d'≠some x)(hw:∀ n∈wr.map (·.1),n∉wr'.map (·.1)):(s.put wr d v).put wr' d' v'=(s.put wr' d' v').put wr d v:=by
 simp only[S.put,upds_comm s.h hw,S.mk.injEq,and_true]
 cases d with
 | none=>rfl
 | some x=>
  cases d' with
  | none=>rfl
  | some y=>
   have:x≠y:=fun e=>hd x rfl (by rw[e])
   exact upd_comm _ _ _ this
structure Pn (U:Nat->Type) where
 i:Nat
 o:Oper
 look:List Nat
 wr:List (Nat×AObj U)
 v:A U
def Pn.on(p:Pn U)(s:S U):S U:=s.put p.wr p.o.dst p.v
def puts:List (Pn U)->S U->S U
 | [],s=>s
 | p::l,s=>puts l (p.on s)
theorem puts_append(l m:List (Pn U))(s:S U):puts (l++m) s=puts m (puts l s):=by
 induction l generalizing s with
 | nil=>rfl
 | cons p l ih=>exact ih _
theorem puts_nx(l:List (Pn U))(s:S U):(puts l s).nx=s.nx:=by
 induction l generalizing s with
 | nil=>rfl
 | cons p l ih=>exact ih _
theorem puts_nm(l:List (Pn U))(s:S U)(i:Nat):(puts l s).nm i=s.nm i:=by unfold S.nm;rw[puts_nx]
section
variable (E:Env U) (ops:List Oper)
def Wants(o:Oper)(s:S U):Prop:=o.guard=none\/∃ j want d,o.guard=some (j,want)/\guardTmp ops o=some d/\s.t d=.bool want
def Wants'(o:Oper)(s:S U):Prop:=∃ j want d,o.guard=some (j,want)/\guardTmp ops o=some d/\(s.t d=.bool (!want)\/s.t d=.tup [])
def Pr(p:Pn U)(s:S U):Prop:=
 (∀ x∈p.wr,x.1∈p.look) ∧
 ((p.wr=[]/\p.v=.tup []/\Wants' ops p.o s) ∨
  (Wants ops p.o s/\∃ pre rd,PDone (plan E (s.nm p.i) p.o s) pre rd p.wr p.v/\(∀ q,pre=some q->q)/\p.look=rd++p.wr.map (·.1)))
def Prs:List (Pn U)->S U->Prop
 | [],_=>True
 | p::l,s=>Pr E ops p s/\Prs l (p.on s)
end
section
variable {E:Env U} {ops:List Oper}
theorem Prs.append{l m:List (Pn U)}:∀ {s:S U},Prs E ops (l++m) s↔Prs E ops l s/\Prs E ops m (puts l s):=by
 induction l with
 | nil=>intro s;simp[Prs,puts]
 | cons p l ih=>intro s;simp only[List.cons_append,Prs,puts,ih,and_assoc]
theorem mem_tmpsOf{d:Nat}:∀ {l:List Operand},Operand.tmp d∈l->d∈tmpsOf l
 | [],h=>by cases h
 | x::l,h=>by
  rcases List.mem_cons.1 h with rfl|h
  ·simp[tmpsOf]
  ·have:=mem_tmpsOf h
   cases x<;>simp[tmpsOf,this]
theorem ev_agree{s s':S U}{x:Operand}{l:List Operand}(hx:x∈l)(h:∀ d∈tmpsOf l,s'.t d=s.t d)(t:TypeId):s'.ev E t x=s.ev E t x:=by
 cases x with
 | tmp d=>exact h d (mem_tmpsOf hx)
 | _=>rfl
theorem guard_uses{o:Oper}{d:Nat}(h:guardTmp ops o=some d):d∈uses ops o:=by unfold uses;rw[h];simp
theorem oper_uses{o:Oper}{d:Nat}(h:d∈tmpsOf o.op.operands.toList):d∈uses ops o:=by unfold uses;exact List.mem_append_left _ h
theorem Wants.agree{o:Oper}{s s':S U}(h:Wants ops o s)(ht:∀ d∈uses ops o,s'.t d=s.t d):Wants ops o s':=by
 rcases h with h|⟨j,want,d,h1,h2,h3⟩
 ·exact .inl h
 ·exact .inr ⟨j,want,d,h1,h2,by rw[ht d (guard_uses h2)];exact h3⟩
theorem Wants'.agree{o:Oper}{s s':S U}(h:Wants' ops o s)(ht:∀ d∈uses ops o,s'.t d=s.t d):Wants' ops o s':=by
 obtain⟨j,want,d,h1,h2,h3⟩:=h
 exact⟨j,want,d,h1,h2,by rw[ht d (guard_uses h2)];exact h3⟩
theorem plan_agree{o:Oper}{s s':S U}{b:Nat}(hne:plan E b o s≠.bad)(ht:∀ d∈uses ops o,s'.t d=s.t d)(hh:∀ n∈lookOf (plan E b o s),s'.h n=s.h n):plan E b o s'=plan E b o s:=
 plan_local (fun x hx t=>ev_agree (l:=o.op.operands.toList) (by simpa using hx) (fun d hd=>ht d (oper_uses hd)) t) hne hh
theorem Pr.agree{p:Pn U}{s s':S U}(h:Pr E ops p s)(hn:s'.nx=s.nx)(ht:∀ d∈uses ops p.o,s'.t d=s.t d)(hh:∀ n∈p.look,s'.h n=s.h n):Pr E ops p s':=by
 refine⟨h.1,?_⟩
 rcases h.2 with ⟨h1,h2,h3⟩|⟨h1,pre,rd,h2,h3,h4⟩
 ·exact .inl ⟨h1,h2,h3.agree ht⟩
 ·refine .inr ⟨h1.agree ht,pre,rd,?_,h3,h4⟩
  have:s'.nm p.i=s.nm p.i:=by unfold S.nm;rw[hn]
  rw[this,plan_agree (ops:=ops) h2.ne ht (by rw[h2.look];rw[<-h4];exact hh)]
  exact h2
structure Clr (ops:List Oper) (q:Pn U) (o:Oper) (look:List Nat) (W:Nat->Prop):Prop where
 ap:apartT ops q.o o=true
 w:∀ n∈q.look,¬W n
 l:∀ n∈q.wr.map (·.1),n∉look
theorem put_t{s:S U}{wr:List (Nat×AObj U)}{dst:Option Nat}{v:A U}{d:Nat}(h:dst≠some d):(s.put wr dst v).t d=s.t d:=by
 cases dst with
 | none=>rfl
 | some e=>exact upd_ne _ _ (fun x=>h (by rw[x]))
theorem front{o:Oper}{look:List Nat}{wr:List (Nat×AObj U)}{v:A U}:∀ (l:List (Pn U)) {s:S U},(∀ q∈l,Clr ops q o look (· ∈ wr.map (·.1)))->Prs E ops l s →
  (puts l s).put wr o.dst v=puts l (s.put wr o.dst v)/\Prs E ops l (s.put wr o.dst v)/\(∀ d∈uses ops o,(puts l s).t d=s.t d)/\(∀ n∈look,(puts l s).h n=s.h n)
 | [],s,hc,hp=>⟨rfl,trivial,fun _ _=>rfl,fun _ _=>rfl⟩
 | q::l,s,hc,hp=>by
  obtain⟨h1,h2,h3,h4⟩:=front (v:=v) l (fun x hx=>hc x (List.mem_cons_of_mem _ hx)) hp.2
  have c:=hc q (by simp)
  obtain⟨a1,a2,a3⟩:=apartT_spec c.ap
  have comm:(q.on s).put wr o.dst v=q.on (s.put wr o.dst v):=by
   unfold Pn.on
   refine put_comm s (fun x hx=>a2 x hx) (fun n hn hm=>?_)
   obtain⟨y,hy,rfl⟩:=List.mem_map.1 hn
   exact c.w _ (hp.1.1 y hy) hm
  refine⟨by rw[puts,puts,<-comm];exact h1,⟨hp.1.agree rfl (fun d hd=>put_t (fun he=>a3 d he hd)) (fun n hn=>?_),by rw[<-comm];exact h2⟩,fun d hd=>?_,fun n hn=>?_⟩
  ·exact upds_notin (c.w n hn)
  ·rw[puts,h3 d hd];exact put_t (fun he=>a1 d he hd)
  ·rw[puts,h4 n hn];exact upds_notin (fun hm=>c.l n hm hn)
end
def edgesAt(ops:List Oper)(i:Nat):List Nat:=match ops[i]? with|some o=>edges o.after.toList|.none=>[]
theorem mem_edges{e:Edge}:∀ {l:List Edge},e∈l->Region.binds .any e=true->e.on∈edges l
 | [],h,_=>by cases h
 | x::l,h,hb=>by
  simp only[edges]
  rcases List.mem_cons.1 h with rfl|h
  ·rw[hb];simp
  ·cases Region.binds .any x<;>simp[mem_edges h hb]
theorem edges_mem{n:Nat}:∀ {l:List Edge},n∈edges l->∃ e∈l,Region.binds .any e=true/\e.on=n
 | [],h=>by cases h
 | x::l,h=>by
  simp only[edges] at h
  cases hb:Region.binds .any x with
  | true=>
   rw[hb] at h
   rcases List.mem_cons.1 h with rfl|h
   ·exact⟨x,by simp,hb,rfl⟩
   ·obtain⟨e,h1,h2⟩:=edges_mem h;exact⟨e,by simp[h1],h2⟩
  | false=>
   rw[hb] at h
   obtain⟨e,h1,h2⟩:=edges_mem h;exact⟨e,by simp[h1],h2⟩
theorem allIn_iff{done:List Nat}:∀ {l:List Nat},allIn done l=true↔∀ n∈l,n∈done
 | []=>by simp[allIn]
 | n::l=>by simp only[allIn,Bool.and_eq_true,memN_iff,allIn_iff (l:=l),List.mem_cons,forall_eq_or_imp]
theorem mem_addN{l:List Nat}{n m:Nat}:m∈addN l n↔m∈l\/m=n:=by
 unfold addN
 cases h:memN n l with
 | true=>simp only[cond_true];constructor;exact .inl;rintro (h'|rfl);exact h';exact memN_iff.1 h
 | false=>simp
theorem mem_addNs{m:Nat}:∀ {r l:List Nat},m∈addNs l r↔m∈l\/m∈r
 | [],l=>by simp[addNs]
 | n::r,l=>by rw[addNs,mem_addNs,mem_addN,List.mem_cons,or_assoc]
theorem getD_out{α:Type}{l:List α}{i:Nat}(d:α)(h:l.length<=i):l.getD i d=d:=by simp[List.getD,List.getElem?_eq_none h]
theorem getD_left{α:Type}{l m:List α}{i:Nat}(d:α)(h:i<l.length):(l++m).getD i d=l.getD i d:=by simp[List.getD,List.getElem?_append_left h]
theorem befs_closed{ops:List Oper}{D:Nat->Prop}(hD:∀ j,D j->∀ e∈edgesAt ops j,D e):∀ (l:List Oper) (acc:List (List Nat)),(∀ k,l[k]?=ops[acc.length+k]?) →
  (∀ i<acc.length,(∀ e∈edgesAt ops i,D e)->∀ k∈acc.getD i [],D k)->∀ i,(∀ e∈edgesAt ops i,D e)->∀ k∈(befores l acc).getD i [],D k
 | [],acc,hl,ha,i,hi,k,hk=>by
  simp only[befores] at hk
  by_cases h:i<acc.length
  ·exact ha i h hi k hk
  ·rw[getD_out _ (by omega)] at hk;cases hk
 | o::l,acc,hl,ha,i,hi,k,hk=>by
  simp only[befores,edgK_eq,forceL_eq] at hk
  refine befs_closed hD l _ (fun k=>?_) (fun i hlt hi k hk=>?_) i hi k hk
  ·have:=hl (k+1)
   simp only[List.getElem?_cons_succ] at this
   rw[this];congr 1;simp;omega
  ·simp only[List.length_append,List.length_cons,List.length_nil] at hlt
   by_cases h:i<acc.length
   ·rw[getD_left _ h] at hk
    exact ha i h hi k hk
   ·have:i=acc.length:=by omega
    subst this
    have ho:=hl 0
    simp only[List.getElem?_cons_zero,Nat.add_zero] at ho
    have he:edgesAt ops acc.length=edges o.after.toList:=by unfold edgesAt;rw[<-ho]
    rw[he] at hi
    have hk':k∈(edges o.after.toList).foldl (fun s e=>addNs (addN s e) (acc.getD e [])) []:=by
     have:(acc++[(edges o.after.toList).foldl (fun s e=>addNs (addN s e) (acc.getD e [])) []]).getD acc.length []=(edges o.after.toList).foldl (fun s e=>addNs (addN s e) (acc.getD e [])) []:=by simp
     rw[this] at hk;exact hk
    have key:∀ (es:List Nat) (z:List Nat),(∀ e∈es,D e)->(∀ q∈z,D q)->∀ q∈es.foldl (fun s e=>addNs (addN s e) (acc.getD e [])) z,D q:=by
     intro es
     induction es with
     | nil=>intro z _ hz q hq;exact hz q hq
     | cons e es ih=>
      intro z he hz q hq
      refine ih _ (fun x hx=>he x (by simp[hx])) (fun x hx=>?_) q hq
      rcases mem_addNs.1 hx with hx|hx
      ·rcases mem_addN.1 hx with hx|rfl
       ·exact hz x hx
       ·exact he x (by simp)
      ·by_cases hel:e<acc.length
       ·exact ha e hel (hD e (he e (by simp))) x hx
       ·rw[getD_out _ (by omega)] at hx;cases hx
    exact key _ [] hi (fun q hq=>by cases hq) k hk'
theorem bef_closed{ops:List Oper}{D:Nat->Prop}(hD:∀ j,D j->∀ e∈edgesAt ops j,D e)(i:Nat)(hi:∀ e∈edgesAt ops i,D e):∀ k∈befOf (befores ops []) i,D k:=
 befs_closed hD ops [] (fun k=>by simp) (fun i h=>by simp at h) i hi
inductive Good (ops:List Oper):List Nat->List (Nat×Oper)->Prop
 | nil {done}:Good ops done []
 | cons {done x r}:(∀ e∈edges x.2.after.toList,e∈done)->x.1∉done->ops[x.1]?=some x.2->(soft x.2=false->∀ j o,ops[j]?=some o->soft o=true->j∉done->¬∀ e∈edges o.after.toList,e∈done)->Good ops (x.1::done) r->Good ops done (x::r)
theorem pick1_some{kind:Bool}{done:List Nat}:∀ {l:List (Nat×Oper)} {x:Nat×Oper},pick1 kind done l=some x->x∈l/\soft x.2=kind/\x.1∉done/\∀ e∈edges x.2.after.toList,e∈done
 | [],x,h=>by simp[pick1] at h
 | (i,o)::l,x,h=>by
  simp only[pick1] at h
  cases hb:((soft o==kind)&&(!memN i done&&allIn done (edges o.after.toList))) with
  | true=>
   rw[hb] at h
   simp only[cond_true,Option.some.injEq] at h
   subst h
   simp only[Bool.and_eq_true,Bool.not_eq_true',beq_iff_eq,memN_false,allIn_iff] at hb
   exact⟨by simp,hb.1,hb.2.1,hb.2.2⟩
  | false=>
   rw[hb] at h
   obtain⟨h1,h2⟩:=pick1_some (l:=l) h
   exact⟨by simp[h1],h2⟩
theorem pick1_none{kind:Bool}{done:List Nat}:∀ {l:List (Nat×Oper)},pick1 kind done l=none->∀ x∈l,soft x.2=kind->x.1∉done->¬∀ e∈edges x.2.after.toList,e∈done
 | [],h,x,hx=>by cases hx
 | (i,o)::l,h,x,hx=>by
  simp only[pick1] at h
  cases hb:((soft o==kind)&&(!memN i done&&allIn done (edges o.after.toList))) with
  | true=>rw[hb] at h;simp at h
  | false=>
   rw[hb] at h
   intro h1 h2 h3
   rcases List.mem_cons.1 hx with rfl|hx
   ·have:((soft o==kind)&&(!memN i done&&allIn done (edges o.after.toList)))=true:=by
     simp only[Bool.and_eq_true,Bool.not_eq_true',beq_iff_eq,memN_false,allIn_iff]
     exact⟨h1,h2,h3⟩
    rw[hb] at this;simp at this
   ·exact pick1_none (l:=l) h x hx h1 h2 h3
theorem mem_enum{ops:List Oper}:∀ {l:List Oper} {i:Nat} {x:Nat×Oper},x∈enum i l↔∃ k,l[k]?=some x.2/\x.1=i+k
 | [],i,x=>by simp[enum]
 | o::l,i,x=>by
  simp only[enum,List.mem_cons,mem_enum (ops:=ops) (l:=l)]
  constructor
  ·rintro (rfl|⟨k,h1,h2⟩)
   ·exact⟨0,rfl,rfl⟩
   ·exact⟨k+1,by simpa using h1,by omega⟩
  ·rintro⟨k,h1,h2⟩
   cases k with
   | zero=>simp only[List.getElem?_cons_zero,Option.some.injEq] at h1;exact .inl (by cases x;simp_all)
   | succ k=>exact .inr ⟨k,by simpa using h1,by omega⟩
theorem sched_good{ops:List Oper}:∀ (n:Nat) (done:List Nat),Good ops done (sched (enum 0 ops) n done)
 | 0,done=>.nil
 | n+1,done=>by
  have hm:∀ x∈enum 0 ops,ops[x.1]?=some x.2:=fun x hx=>by
   obtain⟨k,h1,h2⟩:=(mem_enum (ops:=ops)).1 hx
   rw[h2,Nat.zero_add];exact h1
  simp only[sched]
  cases h1:pick1 true done (enum 0 ops) with
  | some x=>
   obtain⟨p1,p2,p3,p4⟩:=pick1_some h1
   exact .cons p4 p3 (hm x p1) (fun h=>by rw[p2] at h;simp at h) (sched_good n _)
  | none=>
   cases h2:pick1 false done (enum 0 ops) with
   | none=>exact .nil
   | some x=>
    obtain⟨p1,p2,p3,p4⟩:=pick1_some h2
    exact .cons p4 p3 (hm x p1) (fun _ j o hj hs hd=>pick1_none h1 (j,o) ((mem_enum (ops:=ops)).2 ⟨j,hj,by simp⟩) hs hd) (sched_good n _)
end Go.V

set_option linter.unusedVariables false
set_option linter.unusedSimpArgs false
namespace Go.V
variable {U:Nat->Type}
theorem statRow_spec{b:List Nat}{i:Nat}{o:Oper}:∀ {l:List (Nat×Oper)},statRow b i o l=true->∀ x∈l,x.1<i->soft x.2=false->soft o=false->x.1∈b
 | [],h,x,hx=>by cases hx
 | (j,p)::l,h,x,hx=>by
  simp only[statRow,Bool.and_eq_true] at h
  intro h1 h2 h3
  rcases List.mem_cons.1 hx with rfl|hx
  ·have:Nat.blt j i=true:=by simpa[Nat.blt_eq] using h1
   rw[this] at h
   simp only[cond_true,Bool.or_eq_true,memN_iff] at h
   rcases h.1 with h|h|h
   ·exact h
   ·simp only[] at h2;rw[h2] at h;simp at h
   ·rw[h3] at h;simp at h
  ·exact statRow_spec h.2 x hx h1 h2 h3
theorem stat_spec{ops:List Oper}(h:stat ops=true):(∀ (i:Nat) (o:Oper),ops[i]?=some o->∀ e∈o.after.toList,Region.binds .any e=true->e.on<i) ∧
  (∀ (i j:Nat) (o p:Oper),ops[i]?=some o->ops[j]?=some p->j<i->soft p=false->soft o=false->j∈befOf (befores ops []) i):=by
 simp only[stat,List.all_eq_true,Bool.and_eq_true] at h
 have hm:∀ i o,ops[i]?=some o->(i,o)∈enum 0 ops:=fun i o hi=>(mem_enum (ops:=ops)).2 ⟨i,hi,by simp⟩
 refine⟨fun i o hi e he hb=>?_,fun i j o p hi hj hlt hp ho=>?_⟩
 ·have:=(h (i,o) (hm i o hi)).2 e.on (mem_edges he hb)
  simpa[Nat.blt_eq] using this
 ·exact statRow_spec (h (i,o) (hm i o hi)).1 (j,p) (hm j p hj) hlt hp ho
section
variable {ro:Option Nat}
variable {E:Env U} {N:Nat} {w0:World} {St0:Ck U->Nat->Prop} {O0:Nat->Prop} {ι0:Ini} {ops:Array Oper}
abbrev befs(ops:Array Oper)(i:Nat):List Nat:=befOf (befores ops.toList []) i
structure DI (E:Env U) (ops:Array Oper) (N:Nat) (w0:World) (St0:Ck U->Nat->Prop) (O0:Nat->Prop) (ι0:Ini) (n0:Nat) (pend:List (Pn U)) (r:List (Nat×Oper)) (acc:List Ahead) (done:List Nat) (listed:Array Bool)
  (sc:S U) (a:Act) (w:World) (ι:Nat->Option Value) (St:Ck U->Nat->Prop):Prop where
 inv:Inv E N w0 St0 O0 ι0 sc a.tmps w ι St
 prs:Prs E ops.toList pend sc
 clr:pend.Pairwise fun q p=>q.i∈befs ops p.i\/Clr ops.toList q p.o p.look (· ∈ p.wr.map (·.1))
 acc:∀ q∈pend,(⟨q.i,q.o,q.look,q.wr.map (·.1)⟩:Ahead)∈acc
 pop:∀ p∈pend,ops[p.i]?=some p.o
 nod:(pend.map (·.i)++r.map (·.1)).Nodup
 lst:∀ i,i<ops.size->(listed.getD i true=false↔i∈pend.map (·.i)\/i∈r.map (·.1))
 siz:listed.size=ops.size
 good:Good ops.toList done r
 don:∀ i,i<ops.size->(i∈done↔i∉r.map (·.1))
 dcl:∀ j∈done,∀ e∈edgesAt ops.toList j,e∈done
 lcl:∀ j,listed.getD j false=true->∀ e∈edgesAt ops.toList j,listed.getD e false=true
 fre:∀ i,i∈pend.map (·.i)\/i∈r.map (·.1)->∀ m,sc.nm i<=m->m<sc.nm i+100->ι m=none
 top:∀ m,sc.nm ops.size<=m->ι m=none
 nx:sc.nx=n0
variable {pend:List (Pn U)} {r:List (Nat×Oper)} {acc:List Ahead} {done:List Nat} {listed:Array Bool} {sc:S U} {a:Act} {w:World} {ι:Nat->Option Value} {St:Ck U->Nat->Prop} {T:Tab U} {K:S U->Prop} {x:Nat×Oper} {n0:Nat}
theorem listed_both{i:Nat}(hs:listed.size=ops.size)(hi:i<ops.size):listed.getD i true=listed.getD i false:=by
 simp[hs,hi]
theorem DI.lt(D:DI E ops N w0 St0 O0 ι0 n0 pend r acc done listed sc a w ι St){p:Pn U}(hp:p∈pend):p.i<ops.size:=(Array.getElem?_eq_some_iff.1 (D.pop p hp)).1
theorem DI.ahead(D:DI E ops N w0 St0 O0 ι0 n0 pend (x::r) acc done listed sc a w ι St)(p:Pn U)(hi:p.i=x.1)(ho:p.o=x.2)(hp:Pr E ops.toList p (puts pend sc))
  (hc:∀ q∈acc,q.i∈befs ops p.i\/(apartT ops.toList q.o p.o=true/\(∀ n∈q.look,n∉p.wr.map (·.1))/\(∀ n∈q.wr,n∉p.look))) :
  DI E ops N w0 St0 O0 ι0 n0 (pend++[p]) r (acc++[⟨p.i,p.o,p.look,p.wr.map (·.1)⟩]) (x.1::done) listed sc a w ι St:=by
 have hg:=D.good
 cases hg with
 | cons g1 g2 g3 g4 g5=>
 have e1:((pend++[p]).map (·.i)++r.map (·.1))=(pend.map (·.i)++(x::r).map (·.1)):=by simp[hi]
 have e2:∀ i,(i∈(pend++[p]).map (·.i)\/i∈r.map (·.1))↔(i∈pend.map (·.i)\/i∈(x::r).map (·.1)):=fun i=>by
  rw[<-List.mem_append,<-List.mem_append,e1]
 have hlt:x.1<ops.size:=by
  have:ops.toList[x.1]?=some x.2:=g3
  rw[Array.getElem?_toList] at this
  exact (Array.getElem?_eq_some_iff.1 this).1
 refine⟨D.inv,Prs.append.2 ⟨D.prs,hp,trivial⟩,?_,fun q hq=>?_,fun q hq=>?_,by rw[e1];exact D.nod,fun i h=>by rw[e2];exact D.lst i h,D.siz,g5,fun i h=>?_,fun j hj e he=>?_,D.lcl,fun i h=>D.fre i ((e2 i).1 h),D.top,D.nx⟩
 ·refine List.pairwise_append.2 ⟨D.clr,List.pairwise_singleton _ _,fun q hq p' hp'=>?_⟩
  simp only[List.mem_cons,List.not_mem_nil,or_false] at hp'
  subst hp'
  rcases hc _ (D.acc q hq) with h|⟨h1,h2,h3⟩
  ·exact .inl h
  ·exact .inr ⟨h1,h2,h3⟩
 ·rcases List.mem_append.1 hq with hq|hq
  ·exact List.mem_append_left _ (D.acc q hq)
  ·simp only[List.mem_cons,List.not_mem_nil,or_false] at hq
   subst hq;simp
 ·rcases List.mem_append.1 hq with hq|hq
  ·exact D.pop q hq
  ·simp only[List.mem_cons,List.not_mem_nil,or_false] at hq
   subst hq;rw[hi,ho,<-Array.getElem?_toList];exact g3
 ·have:=D.don i h
  have hn:=D.nod
  rw[List.nodup_append] at hn
  have hn2:=hn.2.1
  simp only[List.map_cons,List.nodup_cons] at hn2
  simp only[List.mem_cons,this,List.map_cons,not_or]
  constructor
  ·rintro (rfl|h)
   ·exact hn2.1
   ·exact h.2
  ·intro h
   by_cases e:i=x.1
   ·exact .inl e
   ·exact .inr ⟨e,h⟩
 ·rcases List.mem_cons.1 hj with rfl|hj
  ·have:edgesAt ops.toList x.1=edges x.2.after.toList:=by unfold edgesAt;rw[g3]
   rw[this] at he
   exact List.mem_cons_of_mem _ (g1 e he)
  ·exact List.mem_cons_of_mem _ (D.dcl j hj e he)
theorem wants_region{o:Oper}{s:S U}(R:Rel E s N a.tmps w ι St)(h:Wants ops.toList o s):Region.wanted o (yielded ops a.tmps)=true:=by
 rcases h with h|⟨j,want,d,h1,h2,h3⟩
 ·unfold Region.wanted;rw[h]
 ·rw[wanted_of R h1 h2 h3];simp
theorem wants_region'{o:Oper}{s:S U}(R:Rel E s N a.tmps w ι St)(h:Wants' ops.toList o s):Region.wanted o (yielded ops a.tmps)=false:=by
 obtain⟨j,want,d,h1,h2,h3|h3⟩:=h
 ·rw[wanted_of R h1 h2 h3];cases want<;>rfl
 ·exact wanted_no R h1 h2 h3
theorem DI.ready(D:DI E ops N w0 St0 O0 ι0 n0 pend r acc done listed sc a w ι St){i:Nat}(hr:i∈Region.ready .any ops listed) :
  i<ops.size/\(i∈pend.map (·.i)\/i∈r.map (·.1))/\(∀ e∈edgesAt ops.toList i,listed.getD e false=true)/\(∀ q∈pend,q.i∉befs ops i):=by
 obtain⟨h0,o,ho,he⟩:=mem_ready.1 hr
 have hlt:=(Array.getElem?_eq_some_iff.1 ho).1
 have h2:∀ e∈edgesAt ops.toList i,listed.getD e false=true:=fun n hn=>by
  unfold edgesAt at hn
  rw[Array.getElem?_toList,ho] at hn
  obtain⟨e,h1,h2,rfl⟩:=edges_mem hn
  exact he e (by simpa using h1) h2
 refine⟨hlt,(D.lst i hlt).1 h0,h2,fun q hq hb=>?_⟩
 have:=bef_closed (D:=fun j=>listed.getD j false=true) D.lcl i h2 q.i hb
 have h3:=(D.lst q.i (D.lt hq)).2 (.inl (List.mem_map_of_mem hq))
 rw[listed_both D.siz (D.lt hq),this] at h3
 simp at h3
theorem lst_after(hs:listed.size=ops.size){i k:Nat}(hk:k<ops.size):(listed.setIfInBounds i true).getD k true=false↔listed.getD k true=false/\k≠i:=by
 by_cases h:i=k
 ·subst h;simp[hs,hk]
 ·rw[getD_set_ne true h];simp;intro _ e;exact h e.symm
theorem lcl_after(hl:∀ j,listed.getD j false=true->∀ e∈edgesAt ops.toList j,listed.getD e false=true){i:Nat}(hi:∀ e∈edgesAt ops.toList i,listed.getD e false=true) :
  ∀ j,(listed.setIfInBounds i true).getD j false=true->∀ e∈edgesAt ops.toList j,(listed.setIfInBounds i true).getD e false=true:=fun j hj e he=>by
 by_cases h:i=j
 ·subst h;exact getD_set_true (hi e he)
 ·rw[getD_set_ne false h] at hj;exact getD_set_true (hl j hj e he)
theorem DI.pend_step(ok:EnvOk2 E)(hd:∀ o∈ops.toList,∀ d,o.dst=some d->d<N){l1 l2:List (Pn U)}{p:Pn U}(D:DI E ops N w0 St0 O0 ι0 n0 (l1++p::l2) r acc done listed sc a w ι St)(hr:p.i∈Region.ready .any ops listed)
  {next:Act->World->Prop} {Q:Exit->Act->World->Prop} (h:∀ a' w' ι' St',DI E ops N w0 St0 O0 ι0 n0 (l1++l2) r acc done (listed.setIfInBounds p.i true) (p.on sc) a' w' ι' St'->puts (l1++l2) (p.on sc)=puts (l1++p::l2) sc->a'.defers=a.defers->next a' w') :
  wpOpIn (FR ro) 0 E.P ops Q p.i next a w:=by
 obtain⟨q1,q2,q3,q4⟩:=D.ready hr
 have hpm:p∈l1++p::l2:=by simp
 have hop:=D.pop p hpm
 have hc:=(List.pairwise_append.1 D.clr)
 have hcl:∀ q∈l1,Clr ops.toList q p.o p.look (· ∈ p.wr.map (·.1)):=fun q hq=>(hc.2.2 q hq p (by simp)).resolve_left (q4 q (by simp[hq]))
 obtain⟨p1,p2⟩:=Prs.append.1 D.prs
 obtain⟨f1,f2,f3,f4⟩:=front (v:=p.v) l1 hcl p1
 have hpr:Pr E ops.toList p sc:=p2.1.agree (puts_nx l1 sc).symm (fun d hd=>(f3 d hd).symm) (fun n hn=>(f4 n hn).symm)
 have hon:p.on (puts l1 sc)=puts l1 (p.on sc):=f1
 have heq:puts (l1++l2) (p.on sc)=puts (l1++p::l2) sc:=by
  rw[puts_append,puts_append,puts,hon]
 have hprs:Prs E ops.toList (l1++l2) (p.on sc):=Prs.append.2 ⟨f2,by have:=p2.2;rw[hon] at this;exact this⟩
 have hne:∀ k,k∈(l1++l2).map (·.i)\/k∈r.map (·.1)->(k∈(l1++p::l2).map (·.i)\/k∈r.map (·.1))/\k≠p.i:=fun k hk=>by
  have hn:=D.nod
  have:((l1++p::l2).map (·.i)++r.map (·.1))=l1.map (·.i)++p.i::(l2.map (·.i)++r.map (·.1)):=by simp
  rw[this,List.nodup_append,List.nodup_cons] at hn
  obtain⟨n1,⟨n2,n3⟩,n4⟩:=hn
  simp only[List.map_append,List.mem_append,List.map_cons,List.mem_cons] at hk ⊢
  refine⟨by rcases hk with (h|h)|h<;>simp[h],fun e=>?_⟩
  subst e
  rcases hk with (h|h)|h
  ·exact n4 p.i h p.i (by simp) rfl
  ·exact n2 (List.mem_append_left _ h)
  ·exact n2 (List.mem_append_right _ h)
 have hne':∀ k,(k∈(l1++p::l2).map (·.i)\/k∈r.map (·.1))->k≠p.i->k∈(l1++l2).map (·.i)\/k∈r.map (·.1):=fun k hk hn=>by
  simp only[List.map_append,List.mem_append,List.map_cons,List.mem_cons] at hk ⊢
  rcases hk with (h|h|h)|h
  ·exact .inl (.inl h)
  ·exact absurd h hn
  ·exact .inl (.inr h)
  ·exact .inr h
 have fin:∀ (a':Act) w' ι' St',Inv E N w0 St0 O0 ι0 (p.on sc) a'.tmps w' ι' St'->(∀ n,ι' n≠none->ι n≠none\/(sc.nm p.i<=n/\n<sc.nm p.i+100))->a'.defers=a.defers->next a' w':=by
  intro a' w' ι' St' hI hnew hdf
  have free:∀ m,ι m=none->¬(sc.nm p.i<=m/\m<sc.nm p.i+100)->ι' m=none:=fun m h1 h2=>by
   cases hm:ι' m with
   | none=>rfl
   | some z=>exact absurd (hnew m (by rw[hm];simp)) (fun h=>h.elim (fun h=>h h1) h2)
  refine h a' w' ι' St' ⟨hI,hprs,?_,fun q hq=>D.acc q ?_,fun q hq=>D.pop q ?_,?_,fun k hk=>?_,by simp[D.siz],D.good,D.don,D.dcl,lcl_after D.lcl q3,fun k hk m h1 h2=>?_,fun m hm=>?_,D.nx⟩ heq hdf
  ·refine List.pairwise_append.2 ⟨hc.1,(List.pairwise_cons.1 hc.2.1).2,fun q hq p' hp'=>hc.2.2 q hq p' (by simp[hp'])⟩
  ·rcases List.mem_append.1 hq with h|h<;>simp[h]
  ·rcases List.mem_append.1 hq with h|h<;>simp[h]
  ·have hn:=D.nod
   refine hn.sublist ?_
   simp only[List.map_append,List.map_cons]
   exact List.Sublist.append (List.Sublist.append (List.Sublist.refl _) (List.sublist_cons_self _ _)) (List.Sublist.refl _)
  ·rw[lst_after D.siz hk,D.lst k hk]
   exact⟨fun h=>hne' k h.1 h.2,fun h=>hne k h⟩
  ·obtain⟨k1,k2⟩:=hne k hk
   refine free m (D.fre k k1 m h1 h2) (fun hh=>?_)
   simp only[S.nm] at hh
   simp only[S.nm,Pn.on,S.put] at h1 h2
   omega
  ·refine free m (D.top m hm) (fun hh=>?_)
   simp only[S.nm] at hh
   simp only[S.nm,Pn.on,S.put] at hm
   omega
 have hdf:∀ v,(a.put p.o.dst v).defers=a.defers:=fun v=>by cases p.o.dst<;>rfl
 unfold wpOpIn
 rw[hop]
 simp only[]
 rcases hpr.2 with ⟨r1,r2,r3⟩|⟨r1,pre,rd,r2,r3,r4⟩
 ·rw[wants_region' D.inv.rel r3]
  simp only[Bool.false_eq_true,if_false]
  have:p.on sc=sc.put [] p.o.dst (.tup []):=by unfold Pn.on;rw[r1,r2]
  exact⟨fun _ _=>trivial,fin _ w ι St (by rw[this];exact D.inv.skip p.o.dst) (fun n h=>.inl h) (hdf _)⟩
 ·rw[wants_region D.inv.rel r1]
  simp only[if_true]
  have hm:p.o∈ops.toList:=by rw[Array.mem_toList_iff];exact Array.mem_of_getElem? hop
  refine (op_step ok D.inv.rel (D.fre p.i (.inl (by simp))) (hd p.o hm) r2 r3 fun u w' ι' St' hs=>?_)
  exact fin _ w' ι' St' (D.inv.step (Nat.le_trans D.inv.nbx (Nat.le_add_right _ _)) hs) hs.new (hdf u)
end
end Go.V

set_option linter.unusedVariables false
set_option linter.unusedSimpArgs false
namespace Go.V
variable {U:Nat->Type}
section
variable {ro:Option Nat}
variable {E:Env U} {N:Nat} {w0:World} {St0:Ck U->Nat->Prop} {O0:Nat->Prop} {ι0:Ini} {ops:Array Oper}
variable {pend:List (Pn U)} {r:List (Nat×Oper)} {acc:List Ahead} {done:List Nat} {listed:Array Bool} {sc:S U} {a:Act} {w:World} {ι:Nat->Option Value} {St:Ck U->Nat->Prop} {T:Tab U} {K:S U->Prop} {x:Nat×Oper} {n0:Nat}
theorem soft_call{o:Oper}{s:S U}{b:Nat}{f:FuncId}{args:List (A U)}{look:List Nat}(hp:plan E b o s=.call f args look):soft o=false:=by
 obtain⟨c,g,g0,caps,ho,hc,-⟩:=call_plan hp
 unfold soft
 rw[ho]
 obtain⟨callee,cargs,ats⟩:=c
 simp only[] at hc
 subst hc
 rfl
theorem soft_yield{o:Oper}{s:S U}{b:Nat}{n f lk:Nat}{vals args:List (A U)}{look:List Nat}(hp:plan E b o s=.yield n f lk vals args look):soft o=false:=by
 obtain⟨c,g,ho,hc,-⟩:=yield_plan hp
 unfold soft
 rw[ho]
 obtain⟨callee,cargs,ats⟩:=c
 simp only[] at hc
 subst hc
 rfl
theorem DI.hard_step(ok:EnvOk2 E)(TS:TSound E T)(hd:∀ o∈ops.toList,∀ d,o.dst=some d->d<N){i:Nat}{o:Oper}(D:DI E ops N w0 St0 O0 ι0 n0 pend ((i,o)::r) acc done listed sc a w ι St)(hr:i∈Region.ready .any ops listed)
  (hw:Wants ops.toList o (puts pend sc)) (hc:clear ops.toList ((puts pend sc).nm i) (befs ops i) o (lookOf (plan E ((puts pend sc).nm i) o (puts pend sc))) (wrOf (plan E ((puts pend sc).nm i) o (puts pend sc))) acc=true)
  (hv:vop E T i o (puts pend sc) K) {next:Act->World->Prop} {Q:Exit->Act->World->Prop}
  (h:∀ sc' a' w' ι' St',DI E ops N w0 St0 O0 ι0 n0 pend r acc (i::done) (listed.setIfInBounds i true) sc' a' w' ι' St'->K (puts pend sc')->a'.defers=a.defers->next a' w') :
  wpOpIn (FR ro) 0 E.P ops Q i next a w:=by
 obtain⟨q1,q2,q3,q4⟩:=D.ready hr
 have hg:=D.good
 cases hg with
 | cons g1 g2 g3 g4 g5=>
 simp only[Array.getElem?_toList] at g3
 have hcs:∀ q∈pend,apartT ops.toList q.o o=true/\(∀ n∈q.look,n∉wrOf (plan E ((puts pend sc).nm i) o (puts pend sc)))/\(∀ n∈q.wr.map (·.1),n∉lookOf (plan E ((puts pend sc).nm i) o (puts pend sc)))/\(∀ n∈q.look,n<(puts pend sc).nm i\/(puts pend sc).nm i+100<=n):=
  fun q hq=>(clear_spec hc _ (D.acc q hq)).resolve_left (q4 q hq)
 obtain⟨-,-,f3,f4⟩:=front (E:=E) (wr:=[]) (v:=.none) (o:=o) (look:=lookOf (plan E ((puts pend sc).nm i) o (puts pend sc))) pend (fun q hq=>⟨(hcs q hq).1,fun n _ hn=>by simp at hn,(hcs q hq).2.2.1⟩) D.prs
 have hne:plan E ((puts pend sc).nm i) o (puts pend sc)≠.bad:=fun e=>by unfold vop at hv;rw[e] at hv;exact hv
 have hpl:=plan_agree (ops:=ops.toList) hne (fun d hd=>(f3 d hd).symm) (fun n hn=>(f4 n hn).symm)
 have hw':Wants ops.toList o sc:=hw.agree (fun d hd=>(f3 d hd).symm)
 have hm:o∈ops.toList:=by rw[Array.mem_toList_iff];exact Array.mem_of_getElem? g3
 have hdf:∀ v,(a.put o.dst v).defers=a.defers:=fun v=>by cases o.dst<;>rfl
 have hnd:=D.nod
 have hnd':i∉pend.map (·.i)/\i∉r.map (·.1):=by
  rw[List.nodup_append] at hnd
  simp only[List.map_cons,List.nodup_cons] at hnd
  exact⟨fun h=>hnd.2.2 i h i (by simp) rfl,hnd.2.1.1⟩
 have hnm:(puts pend sc).nm i=sc.nm i:=puts_nm _ _ _
 unfold wpOpIn
 rw[g3]
 simp only[]
 rw[wants_region D.inv.rel hw']
 simp only[if_true]
 refine (vop_step ok TS D.inv.rel (fun m h1 h2=>D.fre i (.inr (by simp)) m (by rw[<-hnm];exact h1) (by rw[<-hnm];exact h2)) (hd o hm) hpl (fun n hn=>f4 n hn) hv fun wr v u w' ι' St' hk hn hs=>?_)
 have hcl:∀ q∈pend,Clr ops.toList q o (lookOf (plan E ((puts pend sc).nm i) o (puts pend sc))) (· ∈ wr.map (·.1)):=fun q hq=>⟨(hcs q hq).1,fun n h1 h2=>by
  obtain⟨y,hy,rfl⟩:=List.mem_map.1 h2
  rcases hn y hy with h|h
  ·exact (hcs q hq).2.1 _ h1 h
  ·have:=(hcs q hq).2.2.2 _ h1;omega,(hcs q hq).2.2.1⟩
 obtain⟨e1,e2,-,-⟩:=front (E:=E) (wr:=wr) (v:=v) (o:=o) pend hcl D.prs
 have free:∀ m,ι m=none->¬(sc.nm i<=m/\m<sc.nm i+100)->ι' m=none:=fun m h1 h2=>by
  cases hm:ι' m with
  | none=>rfl
  | some z=>
   rcases hs.new m (by rw[hm];simp) with h|h
   ·exact absurd h1 h
   ·rw[hnm] at h;exact absurd h h2
 rw[e1] at hk
 refine h _ _ w' ι' St' ⟨D.inv.step (Nat.le_trans D.inv.nbx (by simp only[S.nm,puts_nx];exact Nat.le_add_right _ _)) hs,e2,D.clr,D.acc,D.pop,?_,fun k hk=>?_,by simp[D.siz],g5,fun k hk=>?_,fun j hj e he=>?_,lcl_after D.lcl q3,fun k hk m h1 h2=>?_,fun m hm=>?_,D.nx⟩ hk (hdf u)
 ·refine hnd.sublist ?_
  simp only[List.map_cons]
  exact List.Sublist.append (List.Sublist.refl _) (List.sublist_cons_self _ _)
 ·rw[lst_after D.siz hk,D.lst k hk]
  simp only[List.map_cons,List.mem_cons]
  constructor
  ·rintro⟨h|h|h,h'⟩
   ·exact .inl h
   ·exact absurd h h'
   ·exact .inr h
  ·rintro (h|h)
   ·exact⟨.inl h,fun e=>hnd'.1 (e▸h)⟩
   ·exact⟨.inr (.inr h),fun e=>hnd'.2 (e▸h)⟩
 ·have:=D.don k hk
  simp only[List.map_cons,List.mem_cons,not_or] at this ⊢
  rw[this]
  constructor
  ·rintro (h|h)
   ·rw[h];exact hnd'.2
   ·exact h.2
  ·intro h
   by_cases e:k=i
   ·exact .inl e
   ·exact .inr ⟨e,h⟩
 ·rcases List.mem_cons.1 hj with rfl|hj
  ·have:edgesAt ops.toList j=edges o.after.toList:=by unfold edgesAt;rw[Array.getElem?_toList,g3]
   rw[this] at he
   exact List.mem_cons_of_mem _ (g1 e he)
  ·exact List.mem_cons_of_mem _ (D.dcl j hj e he)
 ·have hki:k≠i:=fun e=>by subst e;rcases hk with h|h;exact hnd'.1 h;exact hnd'.2 h
  refine free m (D.fre k (hk.imp id fun h=>by simp only[List.map_cons];exact List.mem_cons_of_mem _ h) m h1 h2) (fun hh=>?_)
  simp only[S.nm] at hh
  simp only[S.nm,S.put] at h1 h2
  omega
 ·refine free m (D.top m hm) (fun hh=>?_)
  simp only[S.nm] at hh
  simp only[S.nm,S.put] at hm
  omega
theorem vdraw_cons{ops:List Oper}{bef:List (List Nat)}{s:S U}{i:Nat}{o:Oper}(hv:vdraw E T ops bef ((i,o)::r) acc s K) :
  (Wants ops o s/\vopD E T ops bef i o acc s (fun acc' s'=>vdraw E T ops bef r acc' s' K))\/(Wants' ops o s/\vskip ops bef i o acc s (fun acc' s'=>vdraw E T ops bef r acc' s' K)):=by
 simp only[vdraw] at hv
 cases hg:o.guard with
 | none=>rw[hg] at hv;exact .inl ⟨.inl hg,hv⟩
 | some jw=>
  obtain⟨j,want⟩:=jw
  rw[hg] at hv
  simp only[] at hv
  cases hd:guardTmp ops o with
  | none=>rw[hd] at hv;exact hv.elim
  | some d=>
   rw[hd] at hv
   simp only[] at hv
   cases hs:s.t d with
   | bool c=>
    rw[hs] at hv
    simp only[] at hv
    cases c<;>cases want<;>simp only[cond_true,cond_false,put_same hs] at hv
    ·exact .inl ⟨.inr ⟨j,false,d,hg,hd,hs⟩,hv⟩
    ·exact .inr ⟨⟨j,true,d,hg,hd,.inl hs⟩,hv⟩
    ·exact .inr ⟨⟨j,false,d,hg,hd,.inl hs⟩,hv⟩
    ·exact .inl ⟨.inr ⟨j,true,d,hg,hd,hs⟩,hv⟩
   | tup l=>
    cases l with
    | nil=>rw[hs] at hv;exact .inr ⟨⟨j,want,d,hg,hd,.inr hs⟩,hv⟩
    | cons _ _=>rw[hs] at hv;exact hv.elim
   | _=>rw[hs] at hv;exact hv.elim
theorem DI.run(ok:EnvOk2 E)(TS:TSound E T)(hd:∀ o∈ops.toList,∀ d,o.dst=some d->d<N)(hst:stat ops.toList=true){i:Nat}(hr:i∈Region.ready .any ops listed){fuel:Nat}{next:Act->World->Prop}{Q:Exit->Act->World->Prop}
  (H:∀ pend r acc done sc a' w' ι' St',DI E ops N w0 St0 O0 ι0 n0 pend r acc done (listed.setIfInBounds i true) sc a' w' ι' St'->vdraw E T ops.toList (befores ops.toList []) r acc (puts pend sc) K->pend.length+r.length=fuel->a'.defers=a.defers->next a' w') :
  ∀ (r:List (Nat×Oper)) (pend:List (Pn U)) (acc:List Ahead) (done:List Nat),DI E ops N w0 St0 O0 ι0 n0 pend r acc done listed sc a w ι St->vdraw E T ops.toList (befores ops.toList []) r acc (puts pend sc) K->pend.length+r.length=fuel+1 →
   wpOpIn (FR ro) 0 E.P ops Q i next a w:=by
 have inPend:∀ (r:List (Nat×Oper)) (pend:List (Pn U)) (acc:List Ahead) (done:List Nat),DI E ops N w0 St0 O0 ι0 n0 pend r acc done listed sc a w ι St->vdraw E T ops.toList (befores ops.toList []) r acc (puts pend sc) K->pend.length+r.length=fuel+1 →
   i∈pend.map (·.i)->wpOpIn (FR ro) 0 E.P ops Q i next a w:=by
  intro r pend acc done D hv hl hi
  obtain⟨p,hp,rfl⟩:=List.mem_map.1 hi
  obtain⟨l1,l2,rfl⟩:=List.append_of_mem hp
  refine D.pend_step ok hd hr fun a' w' ι' St' D' he hdf=>H (l1++l2) r acc done _ a' w' ι' St' D' (by rw[he];exact hv) ?_ hdf
  simp only[List.length_append,List.length_cons] at hl ⊢
  omega
 intro r
 induction r with
 | nil=>
  intro pend acc done D hv hl
  rcases (D.ready hr).2.1 with h|h
  ·exact inPend [] pend acc done D hv hl h
  ·simp at h
 | cons x r ih=>
  intro pend acc done D hv hl
  by_cases hip:i∈pend.map (·.i)
  ·exact inPend _ pend acc done D hv hl hip
  have hir:=(D.ready hr).2.1.resolve_left hip
  obtain⟨j,o⟩:=x
  have hlen:∀ p:Pn U,(pend++[p]).length+r.length=fuel+1:=fun p=>by
   simp only[List.length_append,List.length_cons,List.length_nil] at hl ⊢;omega
  rcases vdraw_cons hv with ⟨hw,hv⟩|⟨hw,hv⟩
  ·unfold vopD at hv
   simp only[] at hv
   cases hc:clear ops.toList ((puts pend sc).nm j) (befOf (befores ops.toList []) j) o (lookOf (plan E ((puts pend sc).nm j) o (puts pend sc))) (wrOf (plan E ((puts pend sc).nm j) o (puts pend sc))) acc with
   | false=>rw[hc] at hv;exact hv.elim
   | true=>
    rw[hc] at hv
    simp only[cond_true] at hv
    cases hs:soft o with
    | true=>
     rw[hs] at hv
     simp only[cond_true] at hv
     unfold vop at hv
     cases hpl:plan E ((puts pend sc).nm j) o (puts pend sc) with
     | bad=>rw[hpl] at hv;exact hv.elim
     | call f args look=>have:=soft_call hpl;rw[hs] at this;simp at this
     | yield n f id vals args look=>have:=soft_yield hpl;rw[hs] at this;simp at this
     | any q rd neg=>have:=soft_any hpl;rw[hs] at this;simp at this
     | knot b' v0=>
      rw[hpl] at hv hc
      simp only[] at hv
      cases hkb:knotBox 0 v0 with
      | none=>rw[hkb] at hv;exact hv.elim
      | some y0=>
       rw[hkb] at hv
       obtain⟨g,hv⟩:=hv
       obtain⟨y,hy⟩:=knotBox_get (g':=g) hkb
       rw[hy] at hv
       have D':=D.ahead ⟨j,o,[b'],[(b',.box y)],.ptr b' []⟩ rfl rfl ⟨fun z hz=>List.mem_map_of_mem (f:=(·.1)) hz,.inr ⟨hw,none,[],.inr ⟨rfl,rfl,b',v0,g,y,hpl,hy,rfl,rfl⟩,(fun q h=>by cases h),rfl⟩⟩
        (fun q hq=>(clear_spec hc q hq).imp id fun h=>⟨h.1,h.2.1,h.2.2.1⟩)
       exact ih _ _ _ D' (by rw[puts_append];exact hv) (hlen _)
     | done pre rd wr v=>
      rw[hpl] at hv hc
      have hk:(∀ q,pre=some q->q)/\vdraw E T ops.toList (befores ops.toList []) r (acc++[⟨j,o,rd++wr.map (·.1),wr.map (·.1)⟩]) ((puts pend sc).put wr o.dst v) K:=by
       cases pre with
       | none=>exact⟨fun p hp=>by simp at hp,hv⟩
       | some q=>exact⟨fun p hp=>by obtain rfl:=Option.some.inj hp;exact hv.1,hv.2⟩
      have D':=D.ahead ⟨j,o,rd++wr.map (·.1),wr,v⟩ rfl rfl ⟨fun y hy=>List.mem_append_right _ (List.mem_map_of_mem hy),.inr ⟨hw,pre,rd,.inl hpl,hk.1,rfl⟩⟩
       (fun q hq=>(clear_spec hc q hq).imp id fun h=>⟨h.1,h.2.1,h.2.2.1⟩)
      exact ih _ _ _ D' (by rw[puts_append];exact hk.2) (hlen _)
    | false=>
     rw[hs] at hv
     simp only[cond_false] at hv
     by_cases hji:j=i
     ·subst hji
      refine D.hard_step ok TS hd hr hw hc hv fun sc' a' w' ι' St' D' hk hdf=>H pend r acc _ sc' a' w' ι' St' D' hk ?_ hdf
      simp only[List.length_cons] at hl;omega
     ·exfalso
      have hg:=D.good
      cases hg with
      | cons g1 g2 g3 g4 g5=>
      obtain⟨q1,q2,q3,q4⟩:=D.ready hr
      have hnd:i∉done:=fun h=>(D.don i q1).1 h hir
      have hed:∀ e∈edgesAt ops.toList i,e∈done:=fun e he=>by
       have h1:=q3 e he
       have hlt:e<ops.size:=by
        rw[<-D.siz]
        rcases Nat.lt_or_ge e listed.size with h|h
        ·exact h
        ·rw[Array.getD_eq_getD_getElem?,Array.getElem?_eq_none h] at h1;simp at h1
       refine (D.don e hlt).2 fun h=>?_
       have:=(D.lst e hlt).2 (.inr h)
       rw[listed_both D.siz hlt,h1] at this
       simp at this
      obtain⟨oi,hoi⟩:∃ oi,ops.toList[i]?=some oi:=⟨ops[i],by rw[Array.getElem?_toList];simp[q1]⟩
      have hei:edgesAt ops.toList i=edges oi.after.toList:=by unfold edgesAt;rw[hoi]
      have hsi:soft oi=false:=by
       cases h:soft oi with
       | false=>rfl
       | true=>exact absurd (by rw[<-hei];exact hed) (g4 hs i oi hoi h hnd)
      obtain⟨-,st⟩:=stat_spec hst
      rcases Nat.lt_trichotomy j i with h|h|h
      ·have:=bef_closed (D:=(· ∈ done)) D.dcl i hed j (st i j oi o hoi g3 h hs hsi)
       exact g2 this
      ·exact hji h
      ·have he:∀ e∈edgesAt ops.toList j,e∈done:=fun e he=>g1 e (by have:edgesAt ops.toList j=edges o.after.toList:=by { unfold edgesAt;rw[g3] };rw[this] at he;exact he)
       have:=bef_closed (D:=(· ∈ done)) D.dcl j he i (st j i o oi g3 hoi h hsi hs)
       exact hnd this
  ·unfold vskip at hv
   cases hc:clear ops.toList ((puts pend sc).nm j) (befOf (befores ops.toList []) j) o [] [] acc with
   | false=>rw[hc] at hv;exact hv.elim
   | true=>
    rw[hc] at hv
    simp only[cond_true] at hv
    have D':=D.ahead ⟨j,o,[],[],.tup []⟩ rfl rfl ⟨(by intro y hy;cases hy),.inl ⟨rfl,rfl,hw⟩⟩ (fun q hq=>(clear_spec hc q hq).imp id fun h=>⟨h.1,h.2.1,h.2.2.1⟩)
    exact ih _ _ _ D' (by rw[puts_append];exact hv) (hlen _)
theorem DI.sound(ok:EnvOk2 E)(TS:TSound E T)(hd:∀ o∈ops.toList,∀ d,o.dst=some d->d<N)(hst:stat ops.toList=true){d0:List Deferred}{Q:Exit->Act->World->Prop}
  (H:∀ s' a' w' ι' St',K s'->Inv E N w0 St0 O0 ι0 s' a'.tmps w' ι' St'->(∀ m,s'.nm ops.size<=m->ι' m=none)->s'.nx=n0->a'.defers=d0->Q .normal a' w') :
  ∀ (fuel:Nat) (pend:List (Pn U)) (r:List (Nat×Oper)) (acc:List Ahead) (done:List Nat) (listed:Array Bool) (sc:S U) (a:Act) (w:World) (ι:Nat->Option Value) (St:Ck U->Nat->Prop),
   pend.length+r.length=fuel->DI E ops N w0 St0 O0 ι0 n0 pend r acc done listed sc a w ι St->vdraw E T ops.toList (befores ops.toList []) r acc (puts pend sc) K->a.defers=d0->wpAnyIn (FR ro) 0 E.P .any ops Q fuel listed a w:=by
 intro fuel
 induction fuel with
 | zero=>
  intro pend r acc done listed sc a w ι St hl D hv hdf
  have hp:pend=[]:=List.eq_nil_of_length_eq_zero (by omega)
  have hr:r=[]:=List.eq_nil_of_length_eq_zero (by omega)
  subst hp hr
  refine⟨List.eq_nil_iff_forall_not_mem.2 fun i hi=>?_,H sc a w ι St hv D.inv D.top D.nx hdf⟩
  rcases (D.ready hi).2.1 with h|h<;>simp at h
 | succ fuel ih=>
  intro pend r acc done listed sc a w ι St hl D hv hdf
  refine⟨fun hnil=>?_,fun i hi=>DI.run ok TS hd hst hi (fun pend r acc done sc a' w' ι' St' D' hv' hl' hdf'=>ih pend r acc done _ sc a' w' ι' St' hl' D' hv' (hdf'.trans hdf)) r pend acc done D hv hl⟩
  exfalso
  have all:∀ i,i<ops.size->listed.getD i true=true:=by
   intro i
   induction i using Nat.strongRecOn with
   | _ i ihi=>
    intro hlt
    cases h:listed.getD i true with
    | true=>rfl
    | false=>
     have:i∈Region.ready .any ops listed:=by
      refine mem_ready.2 ⟨h,ops[i],by simp[hlt],fun e he hb=>?_⟩
      have hlt':=(stat_spec hst).1 i ops[i] (by rw[Array.getElem?_toList];simp[hlt]) e (by simpa using he) hb
      have:=ihi e.on hlt' (by omega)
      rwa [listed_both D.siz (by omega)] at this
     rw[hnil] at this;cases this
  have ex:∃ i,i<ops.size/\(i∈pend.map (·.i)\/i∈r.map (·.1)):=by
   cases pend with
   | cons p l=>exact⟨p.i,D.lt (by simp),.inl (by simp)⟩
   | nil=>
    cases r with
    | nil=>simp at hl
    | cons y r=>
     have hg:=D.good
     cases hg with
     | cons g1 g2 g3 g4 g5=>rw[Array.getElem?_toList] at g3;exact⟨y.1,(Array.getElem?_eq_some_iff.1 g3).1,.inr (by simp)⟩
  obtain⟨i,h1,h2⟩:=ex
  have h3:=(D.lst i h1).2 h2
  rw[all i h1] at h3
  simp at h3
theorem Good.names{ops:List Oper}{done:List Nat}{r:List (Nat×Oper)}(h:Good ops done r):(r.map (·.1)).Nodup/\∀ j∈r.map (·.1),j<ops.length/\j∉done:=by
 induction h with
 | nil=>simp
 | @cons done x r g1 g2 g3 g4 g5 ih=>
  obtain⟨i1,i2⟩:=ih
  simp only[List.map_cons,List.nodup_cons,List.mem_cons,forall_eq_or_imp]
  refine⟨⟨fun h=>(i2 _ h).2 (by simp),i1⟩,⟨(List.getElem?_eq_some_iff.1 g3).1,g2⟩,fun j hj=>⟨(i2 j hj).1,fun h=>(i2 j hj).2 (by simp[h])⟩⟩
theorem List.Nodup.length_le_of_subset_range:∀ {n:Nat} {l:List Nat},l.Nodup->(∀ j∈l,j<n)->l.length<=n:=by
 intro n
 induction n with
 | zero=>intro l _ h;cases l with|nil=>simp|cons x l=>exact absurd (h x (by simp)) (by omega)
 | succ n ih=>
  intro l hn hl
  by_cases hm:n∈l
  ·have:=ih (l:=l.erase n) (hn.erase n) (fun j hj=>by
    have h4:=(List.Nodup.mem_erase_iff hn).1 hj
    have:=hl j h4.2
    have:=h4.1
    omega)
   rw[List.length_erase_of_mem hm] at this
   omega
  ·have:=ih hn (fun j hj=>by
    have:=hl j hj
    have:j≠n:=fun e=>hm (e▸hj)
    omega)
   omega
theorem full_of_nodup:∀ {n:Nat} {l:List Nat},l.Nodup->(∀ j∈l,j<n)->l.length=n->∀ i,i<n->i∈l:=by
 intro n
 induction n with
 | zero=>intro l _ _ _ i hi;omega
 | succ n ih=>
  intro l hn hl hlen i hi
  have hmem:n∈l:=by
   refine Classical.byContradiction fun hnot=>?_
   have hlt:∀ j∈l,j<n:=fun j hj=>by
    have:=hl j hj
    have:j≠n:=fun e=>hnot (e▸hj)
    omega
   have h2:l.length<=n:=by
    have:=List.Nodup.length_le_of_subset_range hn hlt
    exact this
   omega
  by_cases e:i=n
  ·rw[e];exact hmem
  ·have h3:=ih (l:=l.erase n) (hn.erase n) (fun j hj=>by
    have h4:=(List.Nodup.mem_erase_iff hn).1 hj
    have:=hl j h4.2
    have:=h4.1
    omega) (by rw[List.length_erase_of_mem hmem];omega) i (by omega)
   exact List.mem_of_mem_erase h3
theorem vregion_sound(ok:EnvOk2 E)(TS:TSound E T)(hm:E.P.follows .mixedOrders=true){id:Nat}{draw:Bool}(hd:∀ o∈ops.toList,∀ d,o.dst=some d->d<N)(hst:draw=true->stat ops.toList=true){s:S U}
  (I:Inv E N w0 St0 O0 ι0 s a.tmps w ι St) (hf:∀ m,s.nx<=m->ι m=none) (hv:vregion E T ops draw s K) {Q:Exit->Act->World->Prop}
  (H:∀ s' a' w' ι' St',K s'->Inv E N w0 St0 O0 ι0 s' a'.tmps w' ι' St'->(∀ m,s'.nx<=m->ι' m=none)->a'.defers=a.defers->Q .normal a' w'):(Code.region id ops draw).wpIn (FR ro) 0 E.P Q a w:=by
 have fin:∀ s' (a':Act) w' ι' St',K { s' with nx:=s.nm ops.size }->Inv E N w0 St0 O0 ι0 s' a'.tmps w' ι' St'->(∀ m,s'.nm ops.size<=m->ι' m=none)->s'.nx=s.nx->a'.defers=a.defers->Q .normal a' w':=by
  intro s' a' w' ι' St' hk hI hf' hn hdf
  refine H _ a' w' ι' St' hk ⟨⟨hI.rel.tsz,hI.rel.tmp,hI.rel.obj,hI.rel.dis,hI.rel.stb,hI.rel.apt,hI.rel.sup⟩,hI.fr,hI.own,hI.gr,hI.old,Nat.le_trans hI.nbx (by rw[hn];exact Nat.le_add_right _ _),hI.nbe,hI.hid,hI.hnd,hI.kn⟩ (fun m hm=>hf' m ?_) hdf
  simp only[S.nm] at hm ⊢
  omega
 unfold vregion at hv
 simp only[] at hv
 cases draw with
 | false=>
  simp only[cond_false] at hv
  refine wpIn_region ?_
  rw[List.range_eq_range']
  have:=vops_sound (ro:=ro) ok TS (ops:=ops) (Q:=Q) ops.toList 0 s a w ι St (fun s'=>K { s' with nx:=s.nm ops.toList.length }) (fun k o h=>by rw[Nat.zero_add,<-Array.getElem?_toList];exact h) hd I (fun m hm=>hf m (by simpa[S.nm] using hm)) hv
   (fun s' a' w' ι' St' hk hI hf' hn hdf=>fin s' a' w' ι' St' (by simpa using hk) hI (by simpa using hf') hn hdf)
  simpa using this
 | true=>
  simp only[cond_true] at hv
  cases hb:Nat.beq (sched (enum 0 ops.toList) ops.toList.length []).length ops.toList.length with
  | false=>rw[hb] at hv;exact hv.elim
  | true=>
   rw[hb] at hv
   simp only[cond_true] at hv
   have hlen:=Nat.eq_of_beq_eq_true hb
   have hst:=hst rfl
   have hg:Good ops.toList [] (sched (enum 0 ops.toList) ops.toList.length []):=sched_good _ _
   obtain⟨g1,g2⟩:=hg.names
   refine wpIn_region_any hm (DI.sound (K:=fun s'=>K { s' with nx:=s.nm ops.toList.length }) (n0:=s.nx) (d0:=a.defers) ok TS hd hst (fun s' a' w' ι' St' hk hI hf' hn hdf=>fin s' a' w' ι' St' (by simpa using hk) hI hf' hn hdf) ops.size [] _ [] [] _ s a _ ι St (by simpa using hlen) ?_ hv rfl)
   have hall:∀ i,i<ops.size->i∈(sched (enum 0 ops.toList) ops.toList.length []).map (·.1):=by
    intro i hi
    refine full_of_nodup g1 (fun j hj=>(g2 j hj).1) ?_ i hi
    simpa using hlen
   exact⟨I.drew,trivial,.nil,fun q hq=>(by cases hq),fun q hq=>(by cases hq),by simpa using g1,fun i hi=>⟨fun _=>.inr (hall i hi),fun _=>by simp[hi]⟩,by simp,hg,fun i hi=>⟨fun h=>by (cases h),fun h=>absurd (hall i hi) h⟩,fun j hj=>(by cases hj),
    fun j hj=>(by
     exfalso
     rcases Nat.lt_or_ge j ops.size with h|h
     ·simp[h] at hj
     ·rw[Array.getD_eq_getD_getElem?,Array.getElem?_eq_none (by simpa using h)] at hj;simp at hj),fun i _ m h1 _=>hf m (by simp only[S.nm] at h1;omega),fun m hm=>hf m (by simp only[S.nm] at hm;omega),rfl⟩
end
end Go.V

set_option linter.unusedVariables false
set_option linter.unusedSimpArgs false
namespace Go.V
variable {U:Nat->Type}
section
variable {E:Env U} {w:World} {St:Ck U->Nat->Prop} {N:Nat} {tm:Array Value} {w0:World} {St0:Ck U->Nat->Prop} {O0:Nat->Prop} {ι0:Ini}
theorem addN_prefix(l:List Nat)(n:Nat):l <+: addN l n:=by
 unfold addN
 cases memN n l
 ·exact List.prefix_append _ _
 ·exact List.prefix_rfl
theorem addNs_prefix:∀ (r l:List Nat),l <+: addNs l r
 | [],l=>List.prefix_rfl
 | n::r,l=>(addN_prefix l n).trans (addNs_prefix r _)
theorem reach_prefix{nm:A U->List Nat}{h:Nat->AObj U}:∀ (n j:Nat) (l:List Nat),l <+: reach nm h n j l
 | 0,j,l=>List.prefix_rfl
 | n+1,j,l=>by
  simp only[reach]
  split
  ·exact List.prefix_rfl
  ·exact (addNs_prefix _ l).trans (reach_prefix n (j+1) _)
theorem layG_prefix{h:Nat->AObj U}{n0:Nat}{first:List Nat}{vs:List (A U)}{x:Laid U}(hx:layG h n0 first vs=some x):first <+: x.L:=by
 unfold layG at hx
 simp only[] at hx
 revert hx
 simp only[Bool.cond_eq_ite]
 split
 ·intro hx;cases hx;exact (addNs_prefix _ _).trans (reach_prefix _ _ _)
 ·intro hx;cases hx
theorem upto_length:∀ n,(upto n).length=n
 | 0=>rfl
 | n+1=>by simp[upto,upto_length n]
theorem upto_get:∀ (n k:Nat),k<n->(upto n)[k]?=some k
 | 0,k,h=>by omega
 | n+1,k,h=>by
  simp only[upto]
  by_cases hk:k<n
  ·rw[List.getElem?_append_left (by rw[upto_length];exact hk)];exact upto_get n k hk
  ·obtain rfl:k=n:=by omega
   rw[List.getElem?_append_right (by rw[upto_length];exact Nat.le_refl _),upto_length];simp
theorem layG_at{h:Nat->AObj U}{n0 nb:Nat}{vs:List (A U)}{x:Laid U}(hx:layG h n0 (upto nb) vs=some x):nb<=x.L.length/\∀ k,k<nb->x.L[k]?=some k:=by
 obtain⟨r,e⟩:=layG_prefix hx
 rw[<-e]
 refine⟨by rw[List.length_append,upto_length];omega,fun k hk=>?_⟩
 rw[List.getElem?_append_left (by rw[upto_length];exact hk)]
 exact upto_get nb k hk
theorem holds_live{ι:Nat->Option Value}{s:S U}(R:Rel E s N tm w ι St):∀ live:List Nat,Holds E w St ι (live.map fun d=>untup (s.t d)) (live.map fun d=>tm.getD d undef)
 | []=>trivial
 | d::live=>by
  refine⟨?_,holds_live R live⟩
  have:=R.tmp d
  show RT E w St ι (untup (s.t d)) (tm.getD d undef)
  revert this
  cases s.t d<;>first|exact id|exact fun _=>trivial
theorem LaidOk.old{s:S U}{ι ι2:Nat->Option Value}{us:List Value}{x:Laid U}{vs:List (A U)}(I:Inv E N w0 St0 O0 ι0 s tm w ι St)(L:LaidOk E s N tm w ι St s.nx us x ι2)(hx:layG s.h s.nx (upto s.nb) vs=some x):∀ n,n<s.nb->reι x.L ι2 n=ι0.2.1 n:=by
 intro n hn
 unfold reι
 rw[(layG_at hx).2 n hn,<-I.old n hn]
 simp only[]
 cases hι:ι n with
 | some u=>exact L.nm n u hι
 | none=>
  cases hι2:ι2 n with
  | none=>rfl
  | some u=>
   rcases L.new n (by rw[hι2];simp) with h|h
   ·exact absurd hι h
   ·have:=I.nbx;omega
theorem lay_sound(ok:EnvOk2 E){s:S U}{ι:Nat->Option Value}(I:Inv E N w0 St0 O0 ι0 s tm w ι St)(hf:∀ m,s.nx<=m->ι m=none){live:List Nat}{x:List (A U)×List (AObj U)}(hl:lay s live=some x) :
  ∃ ι',Inv E N w0 St0 O0 ι0 (S.ofLay live s.nb x.1 x.2) tm w ι' St/\∀ m,x.2.length<=m->ι' m=none:=by
 unfold lay at hl
 cases hx:layG s.h s.nx (upto s.nb) (live.map fun d=>untup (s.t d)) with
 | none=>rw[hx] at hl;cases hl
 | some y=>
  rw[hx] at hl
  simp only[Option.some.injEq] at hl
  subst hl
  have ht:∀ a∈(live.map fun d=>untup (s.t d)),noTup a=true:=fun a ha=>by
   obtain⟨d,-,rfl⟩:=List.mem_map.1 ha
   exact noTup_untup _
  obtain⟨ι2,L⟩:=layG_ok ok I.rel hx (holds_live I.rel live) ht (fun m h _=>hf m h)
  have ho:=L.old I hx
  refine⟨reι y.L ι2,⟨⟨I.rel.tsz,fun d=>L.vals.pairUp d,L.heap.obj,L.heap.dis,L.heap.stb,L.heap.apt,L.heap.sup⟩,I.fr,fun B hB=>I.own B (L.own B (L.sub B hB)),I.gr,ho,?_,I.nbe,fun x hx=>(fun h=>⟨h.1,fun ho=>h.2.1 (L.own _ (L.sub _ ho)),h.2.2⟩) (I.hid x hx),I.hnd,I.kn⟩,fun m hm=>L.out m (by rw[<-L.len];exact hm)⟩
  show s.nb<=y.objs.length
  rw[L.len]
  exact (layG_at hx).1
end
end Go.V
