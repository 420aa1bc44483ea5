/- V: VOps5, VKnot, VOps6, VOps7, VOps8, VOps9, VOpsA, VOpsB -/
import Derived.Test.YtnmecdecebdfiaaDoorVJ02
import Derived.Laws.Append
import Derived.Laws.StructEq
import Derived.Laws.NewFold
set_option linter.unusedVariables false
set_option linter.unusedSimpArgs false
namespace Go.V
variable {U:Nat->Type}
section
variable {E:Env U} {w:World} {St:Ck U->Nat->Prop} {ι:Nat->Option Value} {s:S U} {N:Nat} {a:Act} {b:Nat} {o:Oper}
def Frz(h h':Nat->AObj U):Prop:=∀ n,h' n=h n\/∃ c l,h n=.lst c l/\h' n=.fz c l
theorem Frz.refl(h:Nat->AObj U):Frz h h:=fun _=>.inl rfl
theorem Frz.live{h h':Nat->AObj U}(f:Frz h h'){n:Nat}(hl:isLive (h' n)=true):isLive (h n)=true:=by
 rcases f n with e|⟨c,l,-,e⟩
 ·rw[<-e];exact hl
 ·rw[e] at hl;simp[isLive] at hl
theorem upds_append{α:Type}(f:Nat->α)(l m:List (Nat×α)):upds f (l++m)=upds (upds f l) m:=by
 induction l generalizing f with
 | nil=>rfl
 | cons x l ih=>obtain⟨n,y⟩:=x;simp only[List.cons_append,upds,ih]
theorem Ext.stable(B:Nat):Ext w St ι w (more St (· = B)) ι:=Ext.mores _
theorem Ext.trans{w' w'':World}{St' St'':Ck U->Nat->Prop}{ι' ι'':Nat->Option Value}(x:Ext w St ι w' St' ι')(y:Ext w' St' ι' w'' St'' ι''):Ext w St ι w'' St'' ι'':=
 ⟨fun g b h=>y.st g b (x.st g b h),fun n v h=>y.nm n v (x.nm n v h),fun b h=>(y.hp b (h.elim fun g h=>⟨g,x.st _ b h⟩)).trans (x.hp b h),Nat.le_trans x.sz y.sz⟩
theorem RC.own_inv{m:Nat}{cs:List Value}{bs:List Nat}(h:RC E w St ι [.own m] cs bs):∃ v,cs=[v]/\ι m=some v:=by
 cases h with
 | own h1 h2=>cases h2;exact⟨_,rfl,h1⟩
theorem Rel.freeze{tm:Array Value}(R:Rel E s N tm w ι St){m c:Nat}{l:List (U c)}(hm:s.h m=.lst c l) :
  ∃ St',Ext w St ι w St' ι/\(∀ g B,St' g B->St g B\/Own s ι B)/\Rel E { s with h:=upd s.h m (.fz c l) } N tm w ι St'/\(∀ v,ι m=some v->RC E w St' ι [.ro false c l] [v] [])/\(∀ B,blkO (ι m)=some B->∀ g:Bool,St' (.on g) B):=by
 have h0:=R.obj m
 rw[hm] at h0
 have hl:isLive (s.h m)=true:=by rw[hm];rfl
 rcases h0 with ⟨⟨a0,h1⟩,h2⟩|⟨B,off,cap,ds,h1,h2,h3,h4,h5,h6⟩
 ·subst h2
  have hc:RC E w St ι [.ro false c []] [.slice a0 0 0] []:=.roE .nil
  have R1:=(R.kill m).adopt m (.fz c []) (.slice a0 0 0) (by show isLive (upd s.h m .dead m)=false;rw[upd_same];rfl) (.inr h1)
   ⟨_,rfl,by rw[<-h1,upd_self];exact hc⟩ (fun B h=>by simp[isLive] at h)
  have e:upd (upd s.h m .dead) m (.fz c [])=upd s.h m (.fz c []):=upd_upd _ _ _ _
  rw[<-h1,upd_self] at R1
  simp only[] at R1
  rw[e] at R1
  refine⟨St,Ext.refl,fun _ _ h=>.inl h,R1,fun v hv=>?_,fun B hB=>by rw[h1] at hB;simp[blkO,blk,base_zero] at hB⟩
  rw[h1] at hv
  simp only[Option.some.injEq] at hv
  subst hv
  exact hc
 ·have x:Ext w St ι w (more St (· = B)) ι:=Ext.stable B
  have hB:blkO (ι m)=some B:=by rw[h1];rfl
  have R0:=(R.kill m).stable B h6 (fun k hk hk2=>by
   by_cases e:k=m
   ·subst e;change isLive (upd s.h k .dead k)=true at hk;rw[upd_same] at hk;simp[isLive] at hk
   ·change isLive (upd s.h m .dead k)=true at hk;rw[upd_ne _ _ e] at hk
    exact e (R.dis k m B hk hl hk2 hB)) (fun h=>R.apt m B hl hB h.an)
  have hc:RC E w (more St (· = B)) ι [.ro false c l] [.slice (some ⟨B,off,.none⟩) l.length (cap+1)] []:=.ro (h2.ext x) h3 (.inr ⟨rfl,rfl⟩) h5 .nil
  have R1:=R0.adopt m (.fz c l) (.slice (some ⟨B,off,.none⟩) l.length (cap+1)) (by show isLive (upd s.h m .dead m)=false;rw[upd_same];rfl) (.inr h1)
   ⟨_,rfl,by rw[<-h1,upd_self];exact hc⟩ (fun B h=>by simp[isLive] at h)
  have e:upd (upd s.h m .dead) m (.fz c l)=upd s.h m (.fz c l):=upd_upd _ _ _ _
  rw[<-h1,upd_self] at R1
  simp only[] at R1
  rw[e] at R1
  refine⟨_,x,fun g B' (h:more St (· = B) g B')=>h.imp id fun e=>⟨m,hl,by rw[e.2];exact hB⟩,R1,fun v hv=>?_,fun B' hB' g=>by rw[hB] at hB';obtain rfl:=Option.some.inj hB';exact .inr ⟨rfl,rfl⟩⟩
  rw[h1] at hv
  simp only[Option.some.injEq] at hv
  subst hv
  exact hc
mutual
theorem frz_ok(ok:EnvOk2 E){tm:Array Value}:∀ (q:A U) {h':Nat->AObj U} {St:Ck U->Nat->Prop} {cs:List Value},Frz s.h h'->Rel E { s with h:=h' } N tm w ι St->RC E w St ι [q] cs []->hole (frz s.h q)=false →
  ∃ St',Ext w St ι w St' ι/\(∀ g B,St' g B->St g B\/Own s ι B)/\Rel E { s with h:=upds h' (frzN s.h q) } N tm w ι St'/\Frz s.h (upds h' (frzN s.h q))/\RC E w St' ι [frz s.h q] cs []
 | .agg l,h',St,cs,hf,R,hc,hh=>by
  obtain⟨St',x,g',R',f',c'⟩:=frzs_ok ok l hf R hc.agg_inv (by simpa[frz,hole] using hh)
  exact⟨St',x,g',R',f',by simp only[frz];simpa using RC.agg c' .nil⟩
 | .own m,h',St,cs,hf,R,hc,hh=>by
  cases hm:s.h m with
  | lst c l=>
   simp only[frz,frzN,hm,upds]
   have hv:=hc.own_inv
   obtain⟨v,rfl,hv⟩:=hv
   rcases hf m with h1|⟨c',l',h1,h2⟩
   ·obtain⟨St',x,g',R',q,-⟩:=R.freeze (m:=m) (c:=c) (l:=l) (by show h' m=_;rw[h1,hm])
    refine⟨St',x,fun g B h=>(g' g B h).imp id fun ⟨n,h1,h2⟩=>⟨n,hf.live h1,h2⟩,R',fun n=>?_,q v hv⟩
    by_cases e:n=m
    ·subst e;exact .inr ⟨c,l,hm,by rw[upd_same]⟩
    ·rw[upd_ne _ _ e];exact hf n
   ·rw[hm] at h1
    obtain⟨rfl,h1⟩:=AObj.lst.inj h1
    obtain rfl:=eq_of_heq h1
    have e:upd h' m (.fz c l)=h':=by rw[<-h2,upd_self]
    rw[e]
    have h0:=R.obj m
    simp only[h2] at h0
    obtain⟨v',e1,e2⟩:=h0
    rw[hv] at e1
    simp only[Option.some.injEq] at e1
    subst e1
    exact⟨St,Ext.refl,fun _ _ h=>.inl h,R,hf,e2⟩
  | fz c l=>
   simp only[frz,frzN,hm,upds]
   have hv:=hc.own_inv
   obtain⟨v,rfl,hv⟩:=hv
   have h2:h' m=.fz c l:=by
    rcases hf m with h1|⟨c',l',h1,-⟩
    ·rw[h1,hm]
    ·rw[hm] at h1;simp at h1
   have e:upd h' m (.fz c l)=h':=by rw[<-h2,upd_self]
   rw[e]
   have h0:=R.obj m
   simp only[h2] at h0
   obtain⟨v',e1,e2⟩:=h0
   rw[hv] at e1
   simp only[Option.some.injEq] at e1
   subst e1
   exact⟨St,Ext.refl,fun _ _ h=>.inl h,R,hf,e2⟩
  | dead=>simp[frz,hm,hole] at hh
  | box q=>simp[frz,hm,hole] at hh
  | lp lf lid live vals j=>simp[frz,hm,hole] at hh
 | .nils c,h',St,cs,hf,R,hc,hh=>by
  cases hc;rename_i hn;cases hn
  exact⟨St,Ext.refl,fun _ _ h=>.inl h,R,hf,.roE .nil⟩
 | .clip false c l,h',St,cs,hf,R,hc,hh=>by
  refine⟨St,Ext.refl,fun _ _ h=>.inl h,R,hf,?_⟩
  cases hc with
  | clipE hn=>cases hn;exact .roE .nil
  | clip q1 q2 q3 hn=>cases hn;exact .ro q1 q2 q3 (Nat.le_refl _) .nil
 | .clip true c l,h',St,cs,hf,R,hc,hh=>⟨St,Ext.refl,fun _ _ h=>.inl h,R,hf,hc⟩
 | .none,h',St,cs,hf,R,hc,hh=>⟨St,Ext.refl,fun _ _ h=>.inl h,R,hf,hc⟩
 | .int ..,h',St,cs,hf,R,hc,hh=>⟨St,Ext.refl,fun _ _ h=>.inl h,R,hf,hc⟩
 | .bool ..,h',St,cs,hf,R,hc,hh=>⟨St,Ext.refl,fun _ _ h=>.inl h,R,hf,hc⟩
 | .str ..,h',St,cs,hf,R,hc,hh=>⟨St,Ext.refl,fun _ _ h=>.inl h,R,hf,hc⟩
 | .iv ..,h',St,cs,hf,R,hc,hh=>⟨St,Ext.refl,fun _ _ h=>.inl h,R,hf,hc⟩
 | .nilp,h',St,cs,hf,R,hc,hh=>⟨St,Ext.refl,fun _ _ h=>.inl h,R,hf,hc⟩
 | .nilf,h',St,cs,hf,R,hc,hh=>⟨St,Ext.refl,fun _ _ h=>.inl h,R,hf,hc⟩
 | .arr ..,h',St,cs,hf,R,hc,hh=>⟨St,Ext.refl,fun _ _ h=>.inl h,R,hf,hc⟩
 | .ro ..,h',St,cs,hf,R,hc,hh=>⟨St,Ext.refl,fun _ _ h=>.inl h,R,hf,hc⟩
 | .usl ..,h',St,cs,hf,R,hc,hh=>⟨St,Ext.refl,fun _ _ h=>.inl h,R,hf,hc⟩
 | .sub ..,h',St,cs,hf,R,hc,hh=>⟨St,Ext.refl,fun _ _ h=>.inl h,R,hf,hc⟩
 | .bsl ..,h',St,cs,hf,R,hc,hh=>⟨St,Ext.refl,fun _ _ h=>.inl h,R,hf,hc⟩
 | .ptr ..,h',St,cs,hf,R,hc,hh=>⟨St,Ext.refl,fun _ _ h=>.inl h,R,hf,hc⟩
 | .yld ..,h',St,cs,hf,R,hc,hh=>⟨St,Ext.refl,fun _ _ h=>.inl h,R,hf,hc⟩
 | .tr ..,h',St,cs,hf,R,hc,hh=>⟨St,Ext.refl,fun _ _ h=>.inl h,R,hf,hc⟩
 | .gh _,h',St,cs,hf,R,hc,hh=>⟨St,Ext.refl,fun _ _ h=>.inl h,R,hf,hc⟩
 | .rp ..,h',St,cs,hf,R,hc,hh=>⟨St,Ext.refl,fun _ _ h=>.inl h,R,hf,hc⟩
 | .clo ..,h',St,cs,hf,R,hc,hh=>⟨St,Ext.refl,fun _ _ h=>.inl h,R,hf,hc⟩
 | .tup ..,h',St,cs,hf,R,hc,hh=>⟨St,Ext.refl,fun _ _ h=>.inl h,R,hf,hc⟩
theorem frzs_ok(ok:EnvOk2 E){tm:Array Value}:∀ (l:List (A U)) {h':Nat->AObj U} {St:Ck U->Nat->Prop} {cs:List Value},Frz s.h h'->Rel E { s with h:=h' } N tm w ι St->RC E w St ι l cs []->holes (frzs s.h l)=false →
  ∃ St',Ext w St ι w St' ι/\(∀ g B,St' g B->St g B\/Own s ι B)/\Rel E { s with h:=upds h' (frzNs s.h l) } N tm w ι St'/\Frz s.h (upds h' (frzNs s.h l))/\RC E w St' ι (frzs s.h l) cs []
 | [],h',St,cs,hf,R,hc,hh=>⟨St,Ext.refl,fun _ _ h=>.inl h,R,hf,hc⟩
 | q::l,h',St,cs,hf,R,hc,hh=>by
  obtain⟨c1,c2,b1,b2,rfl,hb,h1,h2⟩:=RC.cons_inv hc
  obtain⟨rfl,rfl⟩:=nil_or hb
  simp only[frzs,holes,Bool.or_eq_false_iff] at hh
  obtain⟨St1,x1,g1,R1,f1,d1⟩:=frz_ok ok q hf R h1 hh.1
  obtain⟨St2,x2,g2,R2,f2,d2⟩:=frzs_ok ok l f1 R1 (h2.ext x1) hh.2
  refine⟨St2,x1.trans x2,fun g B h=>(g2 g B h).elim (g1 g B) .inr,?_,?_,?_⟩
  ·simp only[frzNs,upds_append];exact R2
  ·simp only[frzNs,upds_append];exact f2
  ·simp only[frzs];simpa using RC.cons (d1.ext x2) d2
end
theorem Ops.after{s1:S U}{wr1 wr2:List (Nat×AObj U)}{v:A U}{St1:Ck U->Nat->Prop}(hs:s1={ s with h:=upds s.h wr1 })(f:∀ n,isLive (s1.h n)=true->isLive (s.h n)=true)(hg:∀ g B,St1 g B->St g B\/Own s ι B)(hk:∀ c x B,St (.kn c x) B->St1 (.kn c x) B)(h:Ops E s1 N a w ι St1 b o wr2 v):Ops E s N a w ι St b o (wr1++wr2) v:=by
 obtain⟨nx,u,w',ι',St',q⟩:=h
 have hO:∀ B,Own s1 ι B->Own s ι B:=fun B ⟨n,h1,h2⟩=>⟨n,f n h1,h2⟩
 subst hs
 refine⟨nx,u,w',ι',St',q.run,q.nxt,by rw[upds_append];exact q.rel,q.val,q.fr.mono fun B _ h=>hO B h,q.nm,q.new,fun B hB=>?_,fun g B h=>(q.gr g B h).elim (hg g B) fun h=>.inr (hO B h),fun c x B h=>q.kn c x B (hk c x B h)⟩
 rw[upds_append] at hB
 exact (q.own B hB).imp (hO B) id
theorem zero_row(z:Array Value)(n:Nat):((Array.range (n*z.size)).map (z[· % z.size]!)).toList=(List.replicate n z.toList).flatten:=by
 induction n with
 | zero=>simp
 | succ n ih=>
  rw[List.replicate_succ',List.flatten_append,<-ih]
  simp only[Array.toList_map,Array.toList_range,Nat.add_mul,Nat.one_mul,List.range_add,List.map_append,List.map_map]
  congr 1
  simp only[List.flatten_cons,List.flatten_nil,List.append_nil]
  apply List.ext_getElem
  ·simp
  ·intro i h1 h2
   simp only[List.length_map,List.length_range] at h1
   simp[Nat.add_mod,Nat.mod_eq_of_lt h1,getElem!_pos,h1]
theorem RC.zeros(ok:EnvOk2 E){c:Nat}{z:Array Value}(h:RC E w St ι [E.enc c (E.dflt c)] z.toList [])(n:Nat):RC E w St ι ((List.replicate n (E.dflt c)).map (E.enc c)) ((Array.range (n*z.size)).map (z[· % z.size]!)).toList []:=by
 rw[zero_row]
 induction n with
 | zero=>exact .nil
 | succ n ih=>simp only[List.replicate_succ,List.map_cons,List.flatten_cons];simpa using RC.cons h ih
theorem decs_enc(ok:EnvOk E)(c:Nat):∀ (l:List (A U)) (xs:List (U c)),decs E c l=some xs->l=xs.map (E.enc c)
 | [],xs,h=>by simp only[decs,Option.some.injEq] at h;subst h;rfl
 | q::l,xs,h=>by
  simp only[decs] at h
  cases h1:E.dec c q with
  | none=>rw[h1] at h;simp at h
  | some x=>
   cases h2:decs E c l with
   | none=>rw[h1,h2] at h;simp at h
   | some r=>
    rw[h1,h2] at h
    simp only[Option.some.injEq] at h
    subst h
    simp[ok.decEnc c q x h1,decs_enc ok c l r h2]
theorem setParts_known:∀ (ps:List (Nat×A U)) (l l':List (A U)),setParts E l ps=some l'->(∀ p∈ps,known p.2=true)/\l'.length=l.length
 | [],l,l',h=>by simp only[setParts,Option.some.injEq] at h;subst h;exact⟨by simp,rfl⟩
 | (k,x)::ps,l,l',h=>by
  simp only[setParts] at h
  cases hb:(Nat.blt k l.length&&(Nat.beq (size E.sz (nth l k)) (size E.sz x)&&(known x&&(Go.V.isAgg (nth l k)==Go.V.isAgg x)))) with
  | false=>rw[hb] at h;simp at h
  | true=>
   rw[hb] at h
   simp only[cond_true] at h
   simp only[Bool.and_eq_true] at hb
   obtain⟨h1,h2⟩:=setParts_known ps _ _ h
   exact⟨fun p hp=>by rcases List.mem_cons.1 hp with rfl|hp;exact hb.2.2.1;exact h1 p hp,by rw[h2];simp⟩
theorem frz_known(h:Nat->AObj U)(q:A U)(hk:known (frz h q)=true):known q=true:=by
 cases q with
 | none=>simp[frz,known] at hk
 | tup l=>simp[frz,known] at hk
 | usl c l=>simp[frz,known] at hk
 | _=>rfl
theorem frz_vals(ok:EnvOk2 E)(R:Rel E s N a.tmps w ι St)(t:TypeId)(ps:List (Nat×Operand))(l l':List (A U))
  (hs:setParts E l ((ps.map (·.1)).zip (frzs s.h (ps.map fun p=>s.ev E t p.2)))=some l') (hh:holes (frzs s.h (ps.map fun p=>s.ev E t p.2))=false) :
  ∃ St',Ext w St ι w St' ι/\(∀ g B,St' g B->St g B\/Own s ι B)/\Rel E { s with h:=upds s.h (frzNs s.h (ps.map fun p=>s.ev E t p.2)) } N a.tmps w ι St'/\Frz s.h (upds s.h (frzNs s.h (ps.map fun p=>s.ev E t p.2))) ∧
   ∀ (i k:Nat) (x:A U) (k':Nat) (v:Value),((ps.map (·.1)).zip (frzs s.h (ps.map fun p=>s.ev E t p.2)))[i]?=some (k,x)->(ps.map fun p=>(p.1,a.eval p.2))[i]?=some (k',v)->k'=k/\RT E w St' ι x v:=by
 have len_frzs:∀ m:List (A U),(frzs s.h m).length=m.length:=by intro m;induction m with|nil=>rfl|cons q m ih=>simp[frzs,ih]
 have hk:=(setParts_known _ _ _ hs).1
 have key:∀ (qs:List (Nat×Operand)) (h':Nat->AObj U) (St:Ck U->Nat->Prop),Frz s.h h'->Rel E { s with h:=h' } N a.tmps w ι St->(∀ d,RT E w St ι (s.t d) (a.tmps.getD d undef)) →
   (∀ p∈(qs.map (·.1)).zip (frzs s.h (qs.map fun p=>s.ev E t p.2)),known p.2=true)->holes (frzs s.h (qs.map fun p=>s.ev E t p.2))=false →
   ∃ St',Ext w St ι w St' ι/\(∀ g B,St' g B->St g B\/Own s ι B)/\Rel E { s with h:=upds h' (frzNs s.h (qs.map fun p=>s.ev E t p.2)) } N a.tmps w ι St'/\Frz s.h (upds h' (frzNs s.h (qs.map fun p=>s.ev E t p.2))) ∧
    ∀ (i k:Nat) (x:A U) (k':Nat) (v:Value),((qs.map (·.1)).zip (frzs s.h (qs.map fun p=>s.ev E t p.2)))[i]?=some (k,x)->(qs.map fun p=>(p.1,a.eval p.2))[i]?=some (k',v)->k'=k/\RT E w St' ι x v:=by
  intro qs
  induction qs with
  | nil=>intro h' St f R _ _ _;exact⟨St,Ext.refl,fun _ _ h=>.inl h,R,f,by simp⟩
  | cons q qs ih=>
   intro h' St f R ht hkn hh
   simp only[List.map_cons,frzs,holes,Bool.or_eq_false_iff] at hh
   have hk0:known (frz s.h (s.ev E t q.2))=true:=hkn (q.1,frz s.h (s.ev E t q.2)) (by simp[frzs])
   have hev:RT E w St ι (s.ev E t q.2) (a.eval q.2):=by
    cases hq:q.2 with
    | tmp d=>exact ht d
    | const v=>exact const_ok ok t v
    | func g=>exact func_ok s t a g
    | global g=>exact (R.sup.glo g).1.ext ⟨fun _ _ h=>h,fun _ _ h=>by simp at h,fun _ _=>rfl,Nat.le_refl _⟩
   have hrv:=hev.rv (frz_known _ _ hk0)
   obtain⟨St1,x1,g1,R1,f1,d1⟩:=frz_ok ok (s.ev E t q.2) f R hrv.1 hh.1
   obtain⟨St2,x2,g2,R2,f2,d2⟩:=ih _ St1 f1 R1 (fun d=>(ht d).ext x1) (fun p hp=>hkn p (by simp only[List.map_cons,frzs,List.zip_cons_cons];exact List.mem_cons_of_mem _ hp)) hh.2
   refine⟨St2,x1.trans x2,fun g B h=>(g2 g B h).elim (g1 g B) .inr,?_,?_,?_⟩
   ·simp only[List.map_cons,frzNs,upds_append];exact R2
   ·simp only[List.map_cons,frzNs,upds_append];exact f2
   ·intro i k x k' v h1 h2
    cases i with
    | zero=>
     simp only[List.map_cons,frzs,List.zip_cons_cons,List.getElem?_cons_zero,Option.some.injEq,Prod.mk.injEq] at h1 h2
     obtain⟨rfl,rfl⟩:=h1
     obtain⟨rfl,rfl⟩:=h2
     refine⟨rfl,RT.of_rv ⟨d1.ext x2,?_⟩⟩
     rw[hrv.2]
     cases hq:s.ev E t q.2 with
     | clip g c l=>cases g<;>rfl
     | own m=>simp only[frz];cases hm:s.h m<;>rfl
     | _=>rfl
    | succ i=>
     simp only[List.map_cons,frzs,List.zip_cons_cons,List.getElem?_cons_succ] at h1 h2
     exact d2 i k x k' v h1 h2
 exact key ps s.h St (Frz.refl _) R R.tmp hk hh
theorem op_buildSlice(ok:EnvOk2 E)(R:Rel E s N a.tmps w ι St)(hb:ι b=none)(hd:isLive (s.h b)=false)(t e:TypeId)(n:Nat)(ps:Array (Nat×Operand))(ho:o.op=.buildSlice t n ps)(ht:E.ty t=.sl e)
  {l:List (A U)} {xs:List (U e)} (hs:setParts E ((List.replicate n (E.dflt e)).map (E.enc e)) ((ps.toList.map (·.1)).zip (frzs s.h (ps.toList.map fun p=>s.ev E e p.2)))=some l) (hx:decs E e l=some xs)
  (hh:holes (frzs s.h (ps.toList.map fun p=>s.ev E e p.2))=false)
  (hz:(isNo (E.ty e)||(Nat.beq (n*E.sz e) 0||Nat.blt 16777216 (n*E.sz e)))=false) :
  Ops E s N a w ι St b o (frzNs s.h (ps.toList.map fun p=>s.ev E e p.2)++[(b,.lst e xs)]) (.own b):=by
 simp only[Bool.or_eq_false_iff] at hz
 obtain⟨z1,z2,z3⟩:=hz
 have hne:E.ty e≠.no:=fun h=>by rw[h] at z1;simp[isNo] at z1
 obtain⟨i,z,hi,hiz,hzs,hzr⟩:=ok.dfl e hne
 obtain⟨i',hi',hsz,-⟩:=ok.info e hne
 rw[hi] at hi'
 obtain rfl:=Option.some.inj hi'
 obtain⟨St1,x1,gg,R1,f1,d1⟩:=frz_vals ok R e ps.toList _ _ hs hh
 have h0:=RC.zeros ok (hzr w St1 ι) n
 obtain⟨cs',g1,g2,g3⟩:=fill_parts ok (fun i=>some (i*E.sz e,E.sz e)) _ (ps.toList.map fun p=>(p.1,a.eval p.2)) _ _ _ h0 hs (by
   have len_frzs:∀ m:List (A U),(frzs s.h m).length=m.length:=by intro m;induction m with|nil=>rfl|cons q m ih=>simp[frzs,ih]
   simp[len_frzs]) d1 (by
   intro k hk
   have hk':k<n:=by simpa using hk
   congr 2
   ·rw[<-List.map_take,sizes_enc ok.toEnvOk];simp;rw[Nat.min_eq_left (by omega)]
   ·rw[nth_eq,List.getD,List.getElem?_eq_getElem hk];simp[ok.encSize])
 have hl:=decs_enc ok.toEnvOk e l xs hx
 subst hl
 have hn:xs.length=n:=by have:=(setParts_known _ _ _ hs).2;simpa using this
 have hb1:isLive (upds s.h (frzNs s.h (ps.toList.map fun p=>s.ev E e p.2)) b)=false:=by
  cases hq:isLive (upds s.h (frzNs s.h (ps.toList.map fun p=>s.ev E e p.2)) b) with
  | false=>rfl
  | true=>rw[f1.live hq] at hd;simp at hd
 have hn0:0<n:=by
  rcases Nat.eq_zero_or_pos n with h|h
  ·rw[h,Nat.zero_mul] at z2;simp at z2
  ·exact h
 have hf:=Fr.alloc (fun _=>False) w (.cells cs' e)
 have e1:=fresh_ext (v:=some (.slice (some ⟨w.heap.size,0,.none⟩) n n)) hb hf R1.stb
 have hsize:cs'.size=n*E.sz e:=by rw[g3];simp[hzs]
 refine Ops.after (s1:={ s with h:=upds s.h (frzNs s.h (ps.toList.map fun p=>s.ev E e p.2)) }) (St1:=St1) rfl (fun n h=>f1.live h) gg (fun c x B h=>x1.st _ _ h) ?_
 refine Ops.fresh R1 hb hb1 (u:=.slice (some ⟨w.heap.size,0,.none⟩) n n) (x:=.slice (some ⟨w.heap.size,0,.none⟩) n n) (w':=w.alloc (.cells cs' e)) ?_ hf
  (.inr ⟨w.heap.size,blk_pos hn0,Nat.le_refl _⟩) ?_ ?_
 ·have hrun:=run_buildSlice (P:=E.P) w t e n (ps.map fun (i,x)=>(i,a.eval x)) cs' i z (under_sl ok ht) hi hiz (by rw[hsz];intro h;rw[show (16777216:Nat)=2 ^ 24 from rfl] at z3;have:Nat.blt (2^24) (n*E.sz e)=true:=Nat.ble_eq_true_of_le (by omega);rw[this] at z3;simp at z3)
   (by rw[hsz];intro h;rw[h] at z2;simp at z2) (by
    rw[hsz]
    have:(ps.map fun (i,x)=>(i,a.eval x)).toList=ps.toList.map fun p=>(p.1,a.eval p.2):=by simp
    rw[this,<-hzs]
    rw[<-hzs] at g1
    exact g1)
  simp only[execOp,ho]
  rw[Sem.run_bind,hrun]
  rfl
 ·refine RO.lst_of (ds:=cs'.toList) hn0 ?_ (g2.ext e1) (rangeAt_alloc _ _ _) ?_ (by omega) (by simp)
  ·rw[hn]
  ·rw[<-hsize];exact there_alloc _ _ _
 ·exact RT.of_rv (.mk1 (.own (upd_same _ _ _) .nil) rfl rfl)
end
end Go.V

set_option linter.unusedVariables false
namespace Go.V
variable {U:Nat->Type}
section
variable {E:Env U} {w:World} {St:Ck U->Nat->Prop} {ι:Nat->Option Value} {s:S U} {N:Nat} {tm:Array Value} {a:Act} {b:Nat} {o:Oper}
def addK(St:Ck U->Nat->Prop)(c:Nat)(x:KT (U c))(B0:Nat)(g:Ck U)(B:Nat):Prop:=St g B\/(g=.kn c x/\B=B0)
theorem knotOf_inv{ob:AObj U}{x:KT (U E.kn.c)}(h:knotOf E ob=some x):∃ g dl v y x1 x2,ob=.box (.agg [.agg [.gh g,.arr E.kn.dc E.kn.dn dl],v,.tr E.kn.c x1 [],.tr E.kn.c x2 []])/\E.dec E.kn.c v=some y ∧
  size E.sz (.agg [.gh g,.arr E.kn.dc E.kn.dn dl])=size E.sz E.kn.mz/\x=.node g y x1 x2:=by
 unfold knotOf at h
 split at h
 ·rename_i g dc dn dl v c1 x1 c2 x2
  split at h
  ·rename_i h1
   split at h
   ·rename_i h2
    subst h1 h2
    cases hd:E.dec E.kn.c v with
    | none=>rw[hd] at h;cases h
    | some y=>
     rw[hd] at h
     simp only[Bool.cond_eq_ite] at h
     split at h
     ·rename_i hb
      cases h
      simp only[Bool.and_eq_true] at hb
      obtain rfl:=Nat.eq_of_beq_eq_true hb.1
      obtain rfl:=Nat.eq_of_beq_eq_true hb.2.1
      exact⟨g,dl,v,y,x1,x2,rfl,hd,Nat.eq_of_beq_eq_true hb.2.2,rfl⟩
     ·cases h
   ·cases h
  ·cases h
 ·cases h
theorem RC.ptr_inv{n:Nat}{p:List Step}{cs:List Value}(h:RC E w St ι [.ptr n p] cs []):∃ u B off,ι n=some u/\base u=some (B,off)/\vp (lenV' u) p/\cs=[.pointer (some ⟨B,off+po p,.none⟩)]:=by
 cases h with
 | ptr h1 h2 h3 h4=>cases h4;exact⟨_,_,_,h1,h2,h3,rfl⟩
theorem Rel.addK(ok:EnvOk2 E)(R:Rel E s N tm w ι St){m:Nat}{x:KT (U E.kn.c)}(hk:knotOf E (s.h m)=some x) :
  ∃ B,ι m=some (.pointer (some ⟨B,0,.none⟩))/\isLive (s.h m)=true/\x.isNil=false/\Ext w St ι w (V.addK St E.kn.c x B) ι/\Rel E { s with h:=upd s.h m .dead } N tm w ι (V.addK St E.kn.c x B):=by
 obtain⟨g,d,v,y,x1,x2,e1,e2,e3,rfl⟩:=knotOf_inv hk
 have hl:isLive (s.h m)=true:=by rw[e1];rfl
 have h0:=R.obj m
 rw[e1] at h0
 obtain⟨B,cs,r1,r2,r3,r4,r5⟩:=h0
 have hB:blkO (ι m)=some B:=by rw[r1];rfl
 have hAn:¬An St B:=R.apt m B hl hB
 have X:Ext w St ι w (V.addK St E.kn.c (.node g y x1 x2) B) ι:=⟨fun _ _ h=>.inl h,fun _ _ h=>h,fun _ _=>rfl,Nat.le_refl _⟩
 have hR:∀ B',AnR (V.addK St E.kn.c (.node g y x1 x2) B) B'->AnR St B':=by
  rintro B' ⟨q,h|⟨h,-⟩⟩
  ·exact⟨q,h⟩
  ·cases h
 have hA:∀ B',An (V.addK St E.kn.c (.node g y x1 x2) B) B'->An St B'\/B'=B:=by
  rintro B' ⟨q,h|⟨-,h⟩⟩
  ·exact .inl ⟨q,h⟩
  ·exact .inr h
 refine⟨B,r1,hl,rfl,X,?_⟩
 have RK:=R.kill m
 refine⟨RK.tsz,fun t=>(RK.tmp t).ext X,fun n=>(RK.obj n).ext X (fun _ h=>h) (fun _ _ _=>rfl),RK.dis,fun B' h=>?_,fun n B' l1 b1 h=>?_,?_⟩
 ·rcases hA B' h with h|rfl
  ·exact R.stb _ h
  ·exact r5
 ·rcases hA B' h with h|rfl
  ·exact RK.apt n B' l1 b1 h
  ·change isLive (upd s.h m .dead n)=true at l1
   by_cases e:n=m
   ·subst e;rw[upd_same] at l1;simp[isLive] at l1
   ·rw[upd_ne _ _ e] at l1;exact e (R.dis n m _ l1 hl b1 hB)
 ·have hkn:KnotIs E w (V.addK St E.kn.c (.node g y x1 x2) B) g y x1 x2 B (cs.take (size E.sz E.kn.mz)) ((cs.drop (size E.sz E.kn.mz)).take (size E.sz v)) (cs.getD (size E.sz E.kn.mz+size E.sz v) undef) (cs.getD (size E.sz E.kn.mz+size E.sz v+1) undef):=by
   obtain⟨c1,c2,b1,b2,rfl,hb,q1,q2⟩:=RC.cons_inv r2.agg_inv
   obtain⟨rfl,rfl⟩:=nil_or hb
   obtain⟨c3,c4,b1,b2,rfl,hb,q3,q4⟩:=RC.cons_inv q2
   obtain⟨rfl,rfl⟩:=nil_or hb
   obtain⟨c5,c6,b1,b2,rfl,hb,q5,q6⟩:=RC.cons_inv q4
   obtain⟨rfl,rfl⟩:=nil_or hb
   have l1:=q1.length ok.toEnvOk
   have l3:=q3.length ok.toEnvOk
   simp only[sizes,Nat.add_zero] at l1 l3
   rw[e3] at l1
   cases q5 with
   | @tr _ _ _ pl _ _ _ k1 n1=>
   cases n1
   cases q6 with
   | @tr _ _ _ pr _ _ _ k2 n2=>
   cases n2
   have t1:(c1++(c3++([pl]++[pr]))).take (size E.sz E.kn.mz)=c1:=by rw[<-l1];simp
   have t2:((c1++(c3++([pl]++[pr]))).drop (size E.sz E.kn.mz)).take (size E.sz v)=c3:=by rw[<-l1,<-l3];simp
   have t3:(c1++(c3++([pl]++[pr]))).getD (size E.sz E.kn.mz+size E.sz v) undef=pl:=by
    rw[<-l1,<-l3,List.getD_eq_getElem?_getD,List.getElem?_append_right (by omega),List.getElem?_append_right (by omega)]
    simp
   have t4:(c1++(c3++([pl]++[pr]))).getD (size E.sz E.kn.mz+size E.sz v+1) undef=pr:=by
    rw[<-l1,<-l3,List.getD_eq_getElem?_getD,List.getElem?_append_right (by omega),List.getElem?_append_right (by omega)]
    have:c1.length+c3.length+1-c1.length-c3.length=1:=by omega
    rw[this];simp
   rw[t1,t2,t3,t4]
   refine⟨by simpa using r3,by simpa using r4,?_,k1.mono X.st,k2.mono X.st,?_,l1⟩
   ·have hv:=ok.decEnc _ _ _ e2
    rw[hv]
    exact q3.closed ok.toEnvOk (fun B h=>.inl h) (by rw[<-hv];simp[closeds,ok.clo])
   ·obtain⟨d1,d2,b1,b2,rfl,hb,u1,u2⟩:=RC.cons_inv q1.agg_inv
    obtain⟨rfl,rfl⟩:=nil_or hb
    cases u1 with
    | gh hn=>cases hn;exact⟨_,_,rfl,.inl ⟨rfl,d,u2.closed ok.toEnvOk (fun B h=>.inl h) (by simp[closeds,V.closed])⟩⟩
  refine⟨fun B' h=>?_,fun c z B' h hr=>?_,fun q=>(R.sup.glo q).ext X.noN,fun c z B' h=>?_,fun c z c' z' B' h h'=>?_⟩
  ·rcases h with h|⟨h,-⟩
   ·exact .inl (R.sup.up B' h)
   ·cases h
  ·rcases h with h|⟨-,rfl⟩
   ·exact R.sup.cls c z B' h (hR B' hr)
   ·exact hAn (hR _ hr).an
  ·rcases h with h|⟨h,rfl⟩
   ·exact (R.sup.kn c z B' h).ext X.noN rfl
   ·cases h
    exact⟨rfl,_,_,_,_,hkn⟩
  ·rcases h with h|⟨h,rfl⟩
   ·rcases h' with h'|⟨h',rfl⟩
    ·exact R.sup.one _ _ _ _ _ h h'
    ·exact absurd ⟨_,h⟩ hAn
   ·rcases h' with h'|⟨h',-⟩
    ·exact absurd ⟨_,h'⟩ hAn
    ·rw[h,h']
theorem kconv_ok(ok:EnvOk2 E)(R:Rel E s N tm w ι St)(q:A U):∃ St',Ext w St ι w St' ι/\(∀ g B,St' g B->St g B\/Own s ι B)/\Rel E { s with h:=upds s.h (kconv E s.h q).2 } N tm w ι St' ∧
  (∀ n,isLive (upds s.h (kconv E s.h q).2 n)=true->isLive (s.h n)=true)/\(∀ v,RT E w St ι q v->RT E w St' ι (kconv E s.h q).1 v)/\(known q=true->known (kconv E s.h q).1=true):=by
 have same:(kconv E s.h q).2=[]->(kconv E s.h q).1=q->∃ St',Ext w St ι w St' ι/\(∀ g B,St' g B->St g B\/Own s ι B)/\Rel E { s with h:=upds s.h (kconv E s.h q).2 } N tm w ι St' ∧
   (∀ n,isLive (upds s.h (kconv E s.h q).2 n)=true->isLive (s.h n)=true)/\(∀ v,RT E w St ι q v->RT E w St' ι (kconv E s.h q).1 v)/\(known q=true->known (kconv E s.h q).1=true):=fun h1 h2=>by
  rw[h1,h2]
  exact⟨St,Ext.refl,fun _ _ h=>.inl h,R,fun _ h=>h,fun _ h=>h,id⟩
 by_cases hq:∃ m,q=.ptr m []
 ·obtain⟨m,rfl⟩:=hq
  cases hk:knotOf E (s.h m) with
  | none=>exact same (by simp only[kconv,hk]) (by simp only[kconv,hk])
  | some x=>
   simp only[kconv,hk]
   obtain⟨B,h1,h2,h3,X,R'⟩:=R.addK ok hk
   refine⟨_,X,fun g B' h=>h.imp id fun h=>⟨m,h2,by rw[h1,h.2];rfl⟩,R',fun n hn=>?_,fun v hv=>?_,fun _=>rfl⟩
   ·change isLive (upd s.h m .dead n)=true at hn
    by_cases e:n=m
    ·subst e;exact h2
    ·rw[upd_ne _ _ e] at hn;exact hn
   ·obtain⟨u,B',off,r1,r2,r3,r4⟩:=RV.ptr_inv hv
    rw[h1] at r1
    obtain rfl:=Option.some.inj r1
    simp only[base,Option.some.injEq,Prod.mk.injEq] at r2
    obtain⟨rfl,rfl⟩:=r2
    rw[r4]
    exact RT.of_rv (.mk1 (.tr (.inr ⟨h3,trivial,B,by simp,.inr ⟨rfl,rfl⟩⟩) .nil) rfl rfl)
 ·have h:kconv E s.h q=(q,[]):=by
   unfold kconv
   split
   ·exact absurd ⟨_,rfl⟩ hq
   ·rfl
  exact same (by rw[h]) (by rw[h])
theorem kconvs_ok(ok:EnvOk2 E):∀ (l:List (A U)) {s:S U} {St:Ck U->Nat->Prop},Rel E s N tm w ι St->∃ St',Ext w St ι w St' ι/\(∀ g B,St' g B->St g B\/Own s ι B)/\Rel E { s with h:=upds s.h (kconvs E s.h l).2 } N tm w ι St' ∧
  (∀ n,isLive (upds s.h (kconvs E s.h l).2 n)=true->isLive (s.h n)=true)/\(∀ (i:Nat) (x:A U) (v:Value),l[i]?=some x->RT E w St ι x v->∃ y,(kconvs E s.h l).1[i]?=some y/\RT E w St' ι y v)/\(kconvs E s.h l).1.length=l.length
 | [],s,St,R=>⟨St,Ext.refl,fun _ _ h=>.inl h,R,fun _ h=>h,fun i x v h=>by simp at h,rfl⟩
 | q::l,s,St,R=>by
  obtain⟨St1,x1,g1,R1,l1,h1,-⟩:=kconv_ok ok R q
  obtain⟨St2,x2,g2,R2,l2,h2,n2⟩:=kconvs_ok ok l R1
  simp only[kconvs,upds_append]
  refine⟨St2,x1.trans x2,fun g B h=>(g2 g B h).elim (g1 g B) fun ⟨n,a1,a2⟩=>.inr ⟨n,l1 n a1,a2⟩,R2,fun n h=>l1 n (l2 n h),fun i x v hi hv=>?_,by simp[n2]⟩
  cases i with
  | zero=>
   simp only[List.getElem?_cons_zero,Option.some.injEq] at hi
   subst hi
   exact⟨_,rfl,(h1 v hv).ext x2⟩
  | succ i=>
   simp only[List.getElem?_cons_succ] at hi ⊢
   exact h2 i x v hi (hv.ext x1)
end
end Go.V

set_option linter.unusedVariables false
set_option linter.unusedSimpArgs false
namespace Go.V
variable {U:Nat->Type}
section
variable {E:Env U} {w:World} {St:Ck U->Nat->Prop} {ι:Nat->Option Value} {s:S U} {N:Nat} {a:Act} {b:Nat} {o:Oper}
theorem Ops.pure_after{s1:S U}{wr:List (Nat×AObj U)}{v:A U}{u:Value}{St1:Ck U->Nat->Prop}(hs:s1={ s with h:=upds s.h wr })(f:∀ n,isLive (s1.h n)=true->isLive (s.h n)=true)(hg:∀ g B,St1 g B->St g B\/Own s ι B)(hk:∀ c x B,St (.kn c x) B->St1 (.kn c x) B)(R:Rel E s1 N a.tmps w ι St1)
  (hr:(execOp a.eval o).run E.P w=.ok (.value u) w) (hv:RT E w St1 ι v u):Ops E s N a w ι St b o wr v:=by
 have:=Ops.after (St:=St) (wr2:=[]) (b:=b) hs f hg hk (Ops.pure R hr hv)
 simpa using this
theorem fieldsFit_iff:∀ (fs:List (TypeId×Nat)) (z:List (A U)) (k:Nat),fieldsFit E fs z k=true->fs.length=z.length/\∀ i,i<z.length->∃ f,fieldAt fs i=some f/\f.2=k+sizes E.sz (z.take i)/\E.sz f.1=size E.sz (nth z i)/\E.ty f.1≠.no
 | [],[],k,_=>⟨rfl,fun i hi=>by simp at hi⟩
 | [],_::_,k,h=>by simp[fieldsFit] at h
 | _::_,[],k,h=>by simp[fieldsFit] at h
 | (t,off)::fs,q::z,k,h=>by
  simp only[fieldsFit,Bool.and_eq_true,Bool.not_eq_true'] at h
  obtain⟨h1,h2,h3,h4⟩:=h
  obtain⟨i1,i2⟩:=fieldsFit_iff fs z _ h4
  refine⟨by simp[i1],fun i hi=>?_⟩
  cases i with
  | zero=>exact⟨(t,off),rfl,by simpa[sizes] using Nat.eq_of_beq_eq_true h1,by simpa[nth] using Nat.eq_of_beq_eq_true h3,fun e=>by rw[e] at h2;simp[isNo] at h2⟩
  | succ i=>
   obtain⟨f,f1,f2,f3,f4⟩:=i2 i (by simpa using hi)
   exact⟨f,by simpa[fieldAt] using f1,by rw[f2];simp[sizes];omega,by simpa[nth] using f3,f4⟩
theorem op_build_st(ok:EnvOk2 E)(R:Rel E s N a.tmps w ι St)(t:TypeId)(ps:Array (Nat×Operand))(ho:o.op=.build t ps){z:List (A U)}(hz:zero E t=.agg z){fs:List (TypeId×Nat)}(ht:E.ty t=.st fs)
  (hfit:∀ k,k<z.length->∃ f,fieldAt fs k=some f/\f.2=sizes E.sz (z.take k)/\E.sz f.1=size E.sz (nth z k)/\E.ty f.1≠.no) (hlen:fs.length=z.length)
  (ty:Nat->TypeId) {l:List (A U)} (hs:setParts E z ((ps.toList.map (·.1)).zip (kconvs E s.h (ps.toList.map fun p=>s.ev E (ty p.1) p.2)).1)=some l) :
  Ops E s N a w ι St b o (kconvs E s.h (ps.toList.map fun p=>s.ev E (ty p.1) p.2)).2 (.agg l):=by
 obtain⟨St1,x1,gg,R1,lv,hkv,hkl⟩:=kconvs_ok ok (ps.toList.map fun p=>s.ev E (ty p.1) p.2) R
 obtain⟨i,zv,hi,hiz,hzr⟩:=ok.zer t (by rw[hz];rfl)
 have h0:=hzr w St1 ι
 rw[hz] at h0
 obtain⟨cs,rfl,h1⟩:=RV.agg_inv h0
 obtain⟨fields,hu,hfs⟩:=under_st ok ht
 have hplaces:fields.toList.mapM (fun f=>(E.P.info? f.type).map fun i=>(f.offset,i.size))=some (fs.map fun f=>(f.2,E.sz f.1)):=by
  have:∀ k,k<fields.toList.length->∀ f,fields.toList[k]?=some f->(E.P.info? f.type).map (fun i=>(f.offset,i.size))=some (f.offset,E.sz f.type):=by
   intro k hk f hf
   have hk':k<z.length:=by rw[<-hlen,hfs];simpa using hk
   obtain⟨g,g1,g2,g3,g4⟩:=hfit k hk'
   have:g=(f.type,f.offset):=by
    rw[hfs] at g1
    simp only[fieldAt,List.getElem?_map,hf,Option.map_some,Option.some.injEq] at g1
    exact g1.symm
   subst this
   obtain⟨inf,e1,e2,-⟩:=ok.info f.type g4
   rw[e1];simp[e2]
  rw[hfs,List.map_map]
  generalize fields.toList=fl at this
  clear hfs hu
  induction fl with
  | nil=>rfl
  | cons f fl ih=>
   have hf:=this 0 (by simp) f rfl
   have hr:=ih fun k hk g hg=>this (k+1) (by simpa using hk) g (by simpa using hg)
   simp only[List.mapM_cons,hf,hr]
   rfl
 obtain⟨cs',g1,g2,g3⟩:=fill_parts ok ((fs.map fun f=>(f.2,E.sz f.1)).toArray[·]?) ((ps.toList.map (·.1)).zip (kconvs E s.h (ps.toList.map fun p=>s.ev E (ty p.1) p.2)).1) (ps.toList.map fun p=>(p.1,a.eval p.2)) z l cs h1 hs (by simp[hkl])
  (by
   intro i k x k' v e1 e2
   rw[List.getElem?_zip_eq_some] at e1
   simp only[List.getElem?_map,Option.map_eq_some_iff] at e1 e2
   obtain⟨⟨p,p1,p2⟩,e1⟩:=e1
   obtain⟨p',p3,p4⟩:=e2
   rw[p1] at p3
   obtain rfl:=Option.some.inj p3
   simp only[Prod.mk.injEq] at p2 p4
   obtain rfl:=p2
   obtain⟨rfl,rfl⟩:=p4
   obtain⟨y,y1,y2⟩:=hkv i (s.ev E (ty p.1) p.2) _ (by simp[p1]) (ev_ok ok R _ p.2)
   rw[y1] at e1
   obtain rfl:=Option.some.inj e1
   exact⟨rfl,y2⟩)
  (by
   intro k hk
   obtain⟨g,g1,g2,g3,g4⟩:=hfit k hk
   have hk2:fs[k]?=some g:=g1
   simp only[List.getElem?_toArray,List.getElem?_map,hk2,Option.map_some,Option.some.injEq,Prod.mk.injEq]
   exact⟨g2,g3⟩)
 have hrun:(Instr.build t (ps.map fun (i,x)=>(i,a.eval x))).run E.P w=.ok (.agg cs') w:=by
  refine run_build w t _ _ ?_
  have:(ps.map fun (i,x)=>(i,a.eval x)).toList=ps.toList.map fun p=>(p.1,a.eval p.2):=by simp
  unfold Program.built
  simp only[hi,hu,hiz,hplaces,this]
  exact g1
 refine Ops.pure_after (u:=.agg cs') rfl lv gg (fun c x B h=>x1.st _ _ h) R1 ?_ (RT.of_rv ⟨by show RC E w St1 ι [.agg l] cs'.toList [];simpa using RC.agg g2 .nil,rfl⟩)
 simp only[execOp,ho]
 rw[Sem.run_bind,hrun]
 rfl
theorem op_build_arr(ok:EnvOk2 E)(R:Rel E s N a.tmps w ι St)(t:TypeId)(ps:Array (Nat×Operand))(ho:o.op=.build t ps){c n:Nat}{z:List (U c)}(hz:zero E t=.arr c n z)(ht:E.ty t=.arr n c)
  {l:List (A U)} {xs:List (U c)} (hs:setParts E (z.map (E.enc c)) ((ps.toList.map (·.1)).zip (frzs s.h (ps.toList.map fun p=>s.ev E c p.2)))=some l) (hx:decs E c l=some xs)
  (hh:holes (frzs s.h (ps.toList.map fun p=>s.ev E c p.2))=false) (hne:(isNo (E.ty c)||Nat.beq (E.sz c) 0)=false) :
  Ops E s N a w ι St b o (frzNs s.h (ps.toList.map fun p=>s.ev E c p.2)) (.arr c n xs):=by
 simp only[Bool.or_eq_false_iff] at hne
 have hno:E.ty c≠.no:=fun h=>by rw[h] at hne;simp[isNo] at hne
 obtain⟨i,zv,hi,hiz,hzr⟩:=ok.zer t (by rw[hz];rfl)
 obtain⟨ic,hic,hisz,-⟩:=ok.info c hno
 obtain⟨St1,x1,gg,R1,f1,d1⟩:=frz_vals ok R c ps.toList _ _ hs hh
 have h0:=hzr w St1 ι
 rw[hz] at h0
 obtain⟨cs,rfl,hzl,h1⟩:=RV.arr_inv h0
 have len_frzs:∀ m:List (A U),(frzs s.h m).length=m.length:=by intro m;induction m with|nil=>rfl|cons q m ih=>simp[frzs,ih]
 obtain⟨cs',g1,g2,g3⟩:=fill_parts ok (fun i=>some (i*E.sz c,E.sz c)) _ (ps.toList.map fun p=>(p.1,a.eval p.2)) _ _ _ h1 hs (by simp[len_frzs]) d1 (by
   intro k hk
   have hk':k<z.length:=by simpa using hk
   congr 2
   ·rw[<-List.map_take,sizes_enc ok.toEnvOk];simp;rw[Nat.min_eq_left (by omega)]
   ·rw[nth_eq,List.getD,List.getElem?_eq_getElem hk];simp[ok.encSize])
 have hl:=decs_enc ok.toEnvOk c l xs hx
 subst hl
 have hn:xs.length=n:=by have:=(setParts_known _ _ _ hs).2;simp at this;omega
 have hrun:(Instr.build t (ps.map fun (i,x)=>(i,a.eval x))).run E.P w=.ok (.agg cs') w:=by
  refine run_build w t _ _ ?_
  have:(ps.map fun (i,x)=>(i,a.eval x)).toList=ps.toList.map fun p=>(p.1,a.eval p.2):=by simp
  unfold Program.built
  simp only[hi,under_arr ok ht,hiz,hic,this,hisz]
  exact g1
 refine Ops.pure_after (u:=.agg cs') rfl (fun n h=>f1.live h) gg (fun c x B h=>x1.st _ _ h) R1 ?_ (RT.of_rv ⟨by show RC E w St1 ι [.arr c n xs] cs'.toList [];simpa using RC.arr hn g2 .nil,rfl⟩)
 simp only[execOp,ho]
 rw[Sem.run_bind,hrun]
 rfl
theorem bound_run(k:IntKind)(i:Int)(y:Nat)(c:BoundsCode)(h0:0<=i)(h1:i<=y):(Instr.sliceBound (.int k i) y c).run E.P w=.ok i.toNat w:=by
 simp[Instr.sliceBound,asIntOf,h0,h1]
theorem bounds_run(isS:Bool)(n cap:Nat)(lo hi:Option Value)(l h:Int)(hl:lo=none/\l=0\/∃ k,lo=some (.int k l))(hh:hi=none/\h=n\/∃ k,hi=some (.int k h))
  (h0:0<=l) (h1:l<=h) (h2:h<=n) (hc:n<=cap):(Instr.sliceBounds isS n cap lo hi none).run E.P w=.ok (l.toNat,h.toNat,cap) w:=by
 have b1:∀ k c,(Instr.sliceBound (.int k h) cap c).run E.P w=.ok h.toNat w:=fun k c=>bound_run k h cap c (by omega) (by omega)
 have b2:∀ k c,(Instr.sliceBound (.int k l) h.toNat c).run E.P w=.ok l.toNat w:=fun k c=>bound_run k l h.toNat c h0 (by omega)
 rcases hl with ⟨rfl,rfl⟩|⟨k,rfl⟩<;>rcases hh with ⟨rfl,rfl⟩|⟨k',rfl⟩
 ·simp[Instr.sliceBounds]
 ·simp[Instr.sliceBounds,b1]
 ·have b3:∀ k c,(Instr.sliceBound (.int k l) n c).run E.P w=.ok l.toNat w:=fun k c=>bound_run k l n c h0 (by omega)
  simp[Instr.sliceBounds,b3]
 ·simp[Instr.sliceBounds,b1,b2]
theorem optI_ok(ok:EnvOk2 E)(R:Rel E s N a.tmps w ι St)(d:Int)(x:Option Operand){i:Int}(h:optI d (x.map (s.ev E 0))=some i):x.map a.eval=none/\i=d\/∃ k,x.map a.eval=some (.int k i):=by
 cases x with
 | none=>simp only[Option.map_none,optI,Option.some.injEq] at h;exact .inl ⟨rfl,h.symm⟩
 | some x=>
  simp only[Option.map_some,optI] at h
  cases hx:s.ev E 0 x with
  | int k n=>
   rw[hx] at h
   simp only[Option.some.injEq] at h
   subst h
   have:=ev_ok ok R 0 x
   rw[hx] at this
   exact .inr ⟨k,by simp[RV.int_inv this]⟩
  | _=>rw[hx] at h;simp at h
theorem slice_run(ok:EnvOk2 E){t e:TypeId}(ht:E.ty t=.sl e)(hne:E.ty e≠.no)(a':Option Addr)(n cap:Nat)(hspot:∀ x,a'=some x->x.spot=none)(lo hi:Option Value)(l h:Int)
  (hl:lo=none/\l=0\/∃ k,lo=some (.int k l)) (hh:hi=none/\h=n\/∃ k,hi=some (.int k h)) (h0:0<=l) (h1:l<=h) (h2:h<=n) (hc:n<=cap) :
  (Instr.sliceAt t (.slice a' n cap) lo hi none).run E.P w=.ok (.slice (if cap=l.toNat then a' else a'.map (·.add (l.toNat*E.sz e))) (h.toNat-l.toNat) (cap-l.toNat)) w:=by
 obtain⟨i,hi',hs,-⟩:=ok.info e hne
 have hb:=bounds_run (E:=E) (w:=w) true n cap lo hi l h hl hh h0 h1 h2 hc
 simp[Instr.sliceAt,Instr.slice,run_underlying (under_sl ok ht),hb,sizeOf,typeInfo,hi',hs]
theorem op_slice_ro(ok:EnvOk2 E)(R:Rel E s N a.tmps w ι St)(t:TypeId)(x:Operand)(lo hi:Option Operand)(ho:o.op=.slice t x lo hi none){g:Bool}{c:Nat}{l:List (U c)}(hx:s.ev E t x=.ro g c l)(ht:slOf E t c=true)
  {i j:Int} (h1:optI 0 (lo.map (s.ev E 0))=some i) (h2:optI (l.length:Int) (hi.map (s.ev E 0))=some j) (b0:0<=i) (b1:i<=j) (b2:j<=(l.length:Int)) :
  Ops E s N a w ι St b o [] (.ro g c (cut l i.toNat (j-i).toNat)):=by
 obtain⟨t1,t2⟩:=slOf_iff ok ht
 have hv:=ev_ok ok R t x
 rw[hx] at hv
 obtain⟨a',cap,q1,q2⟩:=RV.ro_inv hv
 have i1:=optI_ok ok R 0 lo h1
 have i2:=optI_ok ok R _ hi h2
 have hlen:(cut l i.toNat (j-i).toNat).length=(j-i).toNat:=by simp only[cut,List.length_take,List.length_drop];omega
 by_cases hz:(j-i).toNat=0
 ·have hnil:cut l i.toNat (j-i).toNat=[]:=List.eq_nil_of_length_eq_zero (by omega)
  rw[hnil]
  have key:∃ a'' cap',(Instr.sliceAt t (.slice a' l.length cap) (lo.map a.eval) (hi.map a.eval) none).run E.P w=.ok (.slice a'' 0 cap') w:=by
   obtain⟨inf,hinf,hs,-⟩:=ok.info c t2
   rcases q2 with rfl|⟨ds,B,off,rfl,q3,q4,q5,q6⟩
   ·have hi0:i=0:=by simp at b2;omega
    have hj0:j=0:=by simp at b2;omega
    subst hi0;subst hj0
    have b3:∀ (k:IntKind) (y:Nat) c,(Instr.sliceBound (.int k 0) y c).run E.P w=.ok 0 w:=fun k y c=>bound_run (E:=E) k 0 y c (by omega) (by omega)
    rcases i1 with ⟨e1,-⟩|⟨k,e1⟩<;>rcases i2 with ⟨e2,-⟩|⟨k',e2⟩<;>rw[e1,e2] <;>
     exact⟨_,_,by simp[Instr.sliceAt,Instr.slice,Instr.sliceBounds,run_underlying (under_sl ok t1),b3,sizeOf,typeInfo,hinf,hs];exact⟨rfl,rfl⟩⟩
   ·have:=slice_run (w:=w) ok t1 t2 (some ⟨B,off,.none⟩) l.length cap (by simp) (lo.map a.eval) (hi.map a.eval) i j i1 i2 b0 b1 b2 q6
    exact⟨_,_,by rw[this,show j.toNat-i.toNat=0 by omega]⟩
  obtain⟨a'',cap',key⟩:=key
  exact Ops.pure R (u:=.slice a'' 0 cap') (by simp[execOp,ho,q1,key]) (RT.of_rv (.mk1 (.roE .nil) rfl rfl))
 ·rcases q2 with rfl|⟨ds,B,off,rfl,q3,q4,q5,q6⟩
  ·simp at b2;omega
  ·have hrun:=slice_run (w:=w) ok t1 t2 (some ⟨B,off,.none⟩) l.length cap (by simp) (lo.map a.eval) (hi.map a.eval) i j i1 i2 b0 b1 b2 q6
   rw[if_neg (by omega)] at hrun
   simp only[Option.map_some,Addr.add_eq] at hrun
   refine Ops.pure R (u:=_) (by simp[execOp,ho,q1,hrun];rfl) (RT.of_rv (.mk1 ?_ rfl rfl))
   have e:j.toNat-i.toNat=(cut l i.toNat (j-i).toNat).length:=by omega
   rw[e]
   have hsz:(ds.drop (i.toNat*E.sz c)).take ((j-i).toNat*E.sz c)=(ds.drop (i.toNat*E.sz c)).take ((j-i).toNat*E.sz c):=rfl
   refine .ro (ds:=(ds.drop (i.toNat*E.sz c)).take ((j-i).toNat*E.sz c)) ?_ (rangeAt_sub q4 _ _) q5 (by omega) .nil
   have hx1:l=l.take i.toNat++(cut l i.toNat (j-i).toNat++l.drop (i.toNat+(j-i).toNat)):=by
    have h1:=List.take_append_drop i.toNat l
    have h2:=List.take_append_drop (j-i).toNat (l.drop i.toNat)
    rw[List.drop_drop] at h2
    conv=>lhs;rw[<-h1,<-h2]
    rfl
   have hm:=congrArg (List.map (E.enc c)) hx1
   rw[hm] at q3
   simp only[List.map_append] at q3
   obtain⟨c1,c2,b1',b2',rfl,hb,p1,p2⟩:=RC.split q3
   obtain⟨rfl,rfl⟩:=nil_or hb
   obtain⟨d1,d2,e1,e2,rfl,he,p3,p4⟩:=RC.split p2
   obtain⟨rfl,rfl⟩:=nil_or he
   have l1:=p1.length ok.toEnvOk
   have l3:=p3.length ok.toEnvOk
   rw[sizes_enc ok.toEnvOk] at l1 l3
   rw[hlen] at l3
   rw[List.length_take,Nat.min_eq_left (by omega)] at l1
   rw[<-l1,<-l3]
   simpa using p3
end
end Go.V

set_option linter.unusedVariables false
set_option linter.unusedSimpArgs false
namespace Go.V
variable {U:Nat->Type}
section
variable {E:Env U} {w:World} {St:Ck U->Nat->Prop} {ι:Nat->Option Value} {s:S U} {N:Nat} {a:Act} {b:Nat} {o:Oper}
theorem len_run(ty:TypeId){t:TypeId}{c:Call}(hc:c.callee=.builtin .len)(ho:o.op=.call c)(args:Array Value)(he:c.args.map a.eval=args)(n:Int)
  (hr:(Builtin.len_ c.argTypes o.type args).run E.P w=.ok (.int .i64 n) w):(execOp a.eval o).run E.P w=.ok (.value (.int .i64 n)) w:=by
 simp only[execOp,ho,resolve,hc,Sem.run_bind,Sem.run_pure,Result.andThen_ok,invoke,builtin,he,hr]
theorem op_len(ok:EnvOk2 E)(R:Rel E s N a.tmps w ι St){c:Call}(hc:c.callee=.builtin .len)(ho:o.op=.call c){x:Operand}{t:TypeId}(hargs:c.args.toList=[x])(ht:c.argTypes.toList.getD 0 0=t)(ht2:c.argTypes.toList≠[])
  {rd:List Nat} {v:A U} (hp:lenV E s t (s.ev E t x)=.done .none rd [] v):Ops E s N a w ι St b o [] v:=by
 have hev:=ev_ok ok R t x
 have ha:c.args.map a.eval = #[a.eval x]:=by
  have:c.args = #[x]:=Array.ext' (by simpa using hargs)
  rw[this];simp
 have hat:c.argTypes[0]?=some t:=by
  cases h:c.argTypes.toList with
  | nil=>exact absurd h ht2
  | cons q r=>rw[h] at ht;simp at ht;subst ht;have:=congrArg (·[0]?) h;simpa using this
 have fin:∀ n:Int,(Builtin.len_ c.argTypes o.type #[a.eval x]).run E.P w=.ok (.int .i64 n) w->v=.int .i64 n->Ops E s N a w ι St b o [] v:=by
  intro n hr hv
  subst hv
  exact Ops.pure R (len_run (t:=t) t hc ho _ ha n hr) (RT.of_rv (.mk1 (.int .nil) rfl rfl))
 unfold lenV at hp
 cases hty:E.ty t with
 | str=>
  rw[hty] at hp
  cases hx:s.ev E t x with
  | str g=>
   rw[hx] at hp hev
   simp only[Plan.done.injEq] at hp
   have hu:E.P.underlying t=some .string:=by have:=ok.under t;rw[hty] at this;exact this
   have h1:=RV.str_inv hev
   exact fin (g.size:Int) (by simp[Builtin.len_,hat,run_underlying hu,h1,goInt]) hp.2.2.2.symm
  | _=>rw[hx] at hp;simp at hp
 | arr n e=>
  rw[hty] at hp
  simp only[Plan.done.injEq] at hp
  exact fin (n:Int) (by simp[Builtin.len_,hat,run_underlying (under_arr ok hty),goInt]) hp.2.2.2.symm
 | sl e=>
  rw[hty] at hp
  have hu:=under_sl ok hty
  have slc:∀ (a':Option Addr) (L C:Nat),a.eval x=.slice a' L C->(Builtin.len_ c.argTypes o.type #[a.eval x]).run E.P w=.ok (.int .i64 (L:Int)) w:=by
   intro a' L C h
   simp[Builtin.len_,hat,run_underlying hu,h,goInt]
  cases hx:s.ev E t x with
  | sub m c i n=>
   rw[hx] at hp hev
   simp only[Plan.done.injEq] at hp
   obtain⟨a0,a1,L,C,cap,-,-,-,-,-,h⟩:=RV.sub_inv hev
   exact fin _ (slc _ _ _ h) hp.2.2.2.symm
  | bsl m p c M i n=>
   rw[hx] at hp hev
   simp only[Plan.done.injEq] at hp
   obtain⟨B,a1,cap,-,-,-,-,-,-,h⟩:=RV.bsl_inv hev
   exact fin _ (slc _ _ _ h) hp.2.2.2.symm
  | nils c=>
   rw[hx] at hp hev
   simp only[Plan.done.injEq] at hp
   exact fin 0 (slc _ _ _ (RV.nils_inv hev)) hp.2.2.2.symm
  | ro g c l=>
   rw[hx] at hp hev
   simp only[Plan.done.injEq] at hp
   obtain⟨a',cap,h,-⟩:=RV.ro_inv hev
   exact fin _ (slc _ _ _ h) hp.2.2.2.symm
  | clip g c l=>
   rw[hx] at hp hev
   simp only[Plan.done.injEq] at hp
   obtain⟨a',h,-⟩:=RV.clip_inv hev
   exact fin _ (slc _ _ _ h) hp.2.2.2.symm
  | own m=>
   rw[hx] at hp hev
   obtain⟨a',L,C,h,h2⟩:=RV.own_inv hev
   cases hm:s.h m with
   | lst c l=>
    simp only[hm,Plan.done.injEq] at hp
    obtain⟨rfl,-⟩:=R.own_at (.inl hm) h2
    exact fin _ (slc _ _ _ h) hp.2.2.2.symm
   | fz c l=>
    simp only[hm,Plan.done.injEq] at hp
    obtain⟨rfl,-⟩:=R.own_at (.inr hm) h2
    exact fin _ (slc _ _ _ h) hp.2.2.2.symm
   | _=>simp[hm] at hp
  | _=>rw[hx] at hp;simp at hp
 | _=>rw[hty] at hp;simp at hp
end
end Go.V

set_option linter.unusedVariables false
set_option linter.unusedSimpArgs false
namespace Go.V
variable {U:Nat->Type}
section
variable {E:Env U} {w:World} {St:Ck U->Nat->Prop} {ι:Nat->Option Value} {s:S U} {N:Nat} {a:Act} {b:Nat} {o:Oper}
theorem cut_cells(ok:EnvOk E){c:Nat}{l:List (U c)}{ds:List Value}{B off i len:Nat}(h:RC E w St ι (l.map (E.enc c)) ds [])(hr:w.rangeAt B off ds)(hi:i+len<=l.length) :
  ∃ es,RC E w St ι ((cut l i len).map (E.enc c)) es []/\w.rangeAt B (off+i*E.sz c) es:=by
 have hlen:(cut l i len).length=len:=by simp only[cut,List.length_take,List.length_drop];omega
 have hx1:l=l.take i++(cut l i len++l.drop (i+len)):=by
  have h1:=List.take_append_drop i l
  have h2:=List.take_append_drop len (l.drop i)
  rw[List.drop_drop] at h2
  conv=>lhs;rw[<-h1,<-h2]
  rfl
 have hm:=congrArg (List.map (E.enc c)) hx1
 rw[hm] at h
 simp only[List.map_append] at h
 obtain⟨c1,c2,b1',b2',rfl,hb,p1,p2⟩:=RC.split h
 obtain⟨rfl,rfl⟩:=nil_or hb
 obtain⟨d1,d2,e1,e2,rfl,he,p3,p4⟩:=RC.split p2
 obtain⟨rfl,rfl⟩:=nil_or he
 have l1:=p1.length ok
 rw[sizes_enc ok,List.length_take,Nat.min_eq_left (by omega)] at l1
 refine⟨d1,p3,?_⟩
 have:=rangeAt_sub hr (i*E.sz c) d1.length
 rw[<-l1] at this ⊢
 simpa using this
structure SrcOk (E:Env U) (w:World) (St:Ck U->Nat->Prop) (ι:Nat->Option Value) (c:Nat) (tx:TypeId) (x:Value) (l:List (U c)):Prop where
 src:∃ news,Src E.P (E.sz c) tx x l.length news w/\RC E w St ι (l.map (E.enc c)) news []
theorem src_cells(ok:EnvOk2 E){c:Nat}{tx e':TypeId}(hk:E.P.underlying tx=some (.slice e')){B off cap:Nat}{l:List (U c)}{ds:List Value}(h:RC E w St ι (l.map (E.enc c)) ds [])(hr:w.rangeAt B off ds) :
  SrcOk E w St ι c tx (.slice (some ⟨B,off,.none⟩) l.length cap) l:=by
 have hl:=h.length ok.toEnvOk
 rw[sizes_enc ok.toEnvOk] at hl
 exact⟨ds,Src.ofSlice w hk _ _ _ _ hl (fun j u hj=>by rw[Addr.add_eq];exact hr j u hj) h.oneCell,h⟩
theorem src_nil{c:Nat}{tx e':TypeId}(hk:E.P.underlying tx=some (.slice e'))(cap:Nat):SrcOk E w St ι c tx (.slice .none 0 cap) []:=by
 refine⟨[],?_,.nil⟩
 exact Src.ofNil w hk cap
theorem src_empty{c:Nat}{tx e':TypeId}(hk:E.P.underlying tx=some (.slice e'))(a':Option Addr)(cap:Nat):SrcOk E w St ι c tx (.slice a' 0 cap) []:=by
 refine⟨[],?_,.nil⟩
 cases a' with
 | none=>exact Src.ofNil w hk cap
 | some x=>exact Src.ofSlice w hk x 0 cap [] (by simp) (by simp) (by simp)
theorem content_src(ok:EnvOk2 E)(R:Rel E s N a.tmps w ι St){tx:TypeId}{y:A U}{v:Value}(hv:RT E w St ι y v){e:TypeId}(ht:E.ty tx=.sl e){q:Cont U}(hc:content E s.h y=some q) :
  SrcOk E w St ι q.c tx v q.l:=by
 have hk:=under_sl ok ht
 cases y with
 | nils c'=>
  obtain rfl:=Option.some.inj hc
  rw[RV.nils_inv hv]
  exact src_nil hk 0
 | ro g c' l'=>
  obtain rfl:=Option.some.inj hc
  obtain⟨a',cap,h1,h2⟩:=RV.ro_inv hv
  rcases h2 with rfl|⟨ds,B,off,rfl,h3,h4,h5,h6⟩
  ·rw[h1];exact src_empty hk _ _
  ·rw[h1];exact src_cells ok hk h3 h4
 | clip g c' l'=>
  obtain rfl:=Option.some.inj hc
  obtain⟨a',h1,h2⟩:=RV.clip_inv hv
  rcases h2 with rfl|⟨ds,B,off,rfl,h3,h4,h5⟩
  ·rw[h1];exact src_empty hk _ _
  ·rw[h1];exact src_cells ok hk h3 h4
 | own m=>
  obtain⟨a',L,C,h1,h2⟩:=RV.own_inv hv
  have key:s.h m=.lst q.c q.l\/s.h m=.fz q.c q.l:=by
   cases hm:s.h m with
   | lst c' l'=>
    simp only[content,hm] at hc
    obtain rfl:=Option.some.inj hc
    exact .inl rfl
   | fz c' l'=>
    simp only[content,hm] at hc
    obtain rfl:=Option.some.inj hc
    exact .inr rfl
   | dead=>simp[content,hm] at hc
   | lp lf lid live vals j=>simp[content,hm] at hc
   | box q=>simp[content,hm] at hc
  obtain⟨rfl,q⟩:=R.own_at key h2
  rcases q with e0|⟨B,off,ds,rfl,q1,q2,q3⟩
  ·rw[h1,e0];exact src_empty hk _ _
  ·rw[h1];exact src_cells ok hk q1 q2
 | sub m c i len=>
  obtain⟨a0,a1,L,C,cap,r1,r2,r3,r4,r5,r6⟩:=RV.sub_inv hv
  have key:∃ l',(s.h m=.lst c l'\/s.h m=.fz c l')/\q=⟨[m],c,cut l' i len⟩:=by
   cases hm:s.h m with
   | lst c' l'=>
    simp only[content,hm] at hc
    cases hb:Nat.beq c' c with
    | false=>rw[hb] at hc;simp at hc
    | true=>
     rw[hb] at hc
     have:=Nat.eq_of_beq_eq_true hb
     subst this
     obtain rfl:=Option.some.inj hc
     exact⟨l',.inl rfl,rfl⟩
   | fz c' l'=>
    simp only[content,hm] at hc
    cases hb:Nat.beq c' c with
    | false=>rw[hb] at hc;simp at hc
    | true=>
     rw[hb] at hc
     have:=Nat.eq_of_beq_eq_true hb
     subst this
     obtain rfl:=Option.some.inj hc
     exact⟨l',.inr rfl,rfl⟩
   | dead=>simp[content,hm] at hc
   | lp lf lid live vals j=>simp[content,hm] at hc
   | box q=>simp[content,hm] at hc
  obtain⟨l',h1,rfl⟩:=key
  obtain⟨rfl,q⟩:=R.own_at h1 r1
  have hlen:(cut l' i len).length=len:=by simp only[cut,List.length_take,List.length_drop];omega
  rw[r6]
  by_cases hz:len=0
  ·have:cut l' i len=[]:=List.eq_nil_of_length_eq_zero (by omega)
   simp only[this]
   rw[hz]
   exact src_empty hk _ _
  ·rcases q with rfl|⟨B,off,ds,rfl,q1,q2,q3⟩
   ·simp at r2;omega
   ·have ha:=r5.resolve_left (by omega)
    simp only[Option.map_some,Addr.add_eq] at ha
    subst ha
    obtain⟨es,p1,p2⟩:=cut_cells ok.toEnvOk q1 q2 r2
    have:=src_cells (cap:=cap) ok hk p1 p2
    rw[hlen] at this
    exact this
 | bsl m p c M i len=>
  obtain⟨B,a1,cap,r1,r2,r3,r4,r5,r6,r7⟩:=RV.bsl_inv hv
  cases hm:s.h m with
  | box q0=>
   simp only[content,hm] at hc
   cases hg:getP E q0 p with
   | arr c' M' l'=>
    rw[hg] at hc
    cases hb:(Nat.beq c c'&&Nat.beq M M') with
    | false=>simp[hb] at hc
    | true=>
     simp only[hb,cond_true] at hc
     simp only[Bool.and_eq_true] at hb
     have e1:=Nat.eq_of_beq_eq_true hb.1
     have e2:=Nat.eq_of_beq_eq_true hb.2
     subst e1;subst e2
     obtain rfl:=Option.some.inj hc
     have h0:=R.obj m
     rw[hm] at h0
     obtain⟨B',cs,h1,h2,h3,h4,h5⟩:=h0
     rw[r1] at h1
     simp only[Option.some.injEq,Value.pointer.injEq,Addr.mk.injEq,and_true] at h1
     subst h1
     obtain⟨g1,g2⟩:=h2.getP ok.toEnvOk p r6 (by rw[hg];rfl)
     rw[hg] at g1 g2
     obtain⟨g3,g4,-⟩:=g1.arr_inv
     have hlen:(cut l' i len).length=len:=by simp only[cut,List.length_take,List.length_drop];omega
     rw[r7]
     by_cases hz:len=0
     ·have:cut l' i len=[]:=List.eq_nil_of_length_eq_zero (by omega)
      simp only[this]
      rw[hz]
      exact src_empty hk _ _
     ·have ha:=r5.resolve_left (by omega)
      subst ha
      have hr:=rangeAt_sub h3 (po p) (size E.sz (.arr c M l':A U))
      rw[Nat.zero_add] at hr
      obtain⟨es,p1,p2⟩:=cut_cells ok.toEnvOk g4 hr (by omega:i+len<=l'.length)
      have:=src_cells (cap:=cap) ok hk p1 p2
      rw[hlen] at this
      exact this
   | none=>simp[hg] at hc
   | int=>simp[hg] at hc
   | bool=>simp[hg] at hc
   | str=>simp[hg] at hc
   | nilp=>simp[hg] at hc
   | nilf=>simp[hg] at hc
   | agg=>simp[hg] at hc
   | nils=>simp[hg] at hc
   | ro=>simp[hg] at hc
   | clip=>simp[hg] at hc
   | usl=>simp[hg] at hc
   | own=>simp[hg] at hc
   | sub=>simp[hg] at hc
   | bsl=>simp[hg] at hc
   | ptr=>simp[hg] at hc
   | yld=>simp[hg] at hc
   | tr c9 x9 p9=>simp[hg] at hc
   | iv x9=>simp[hg] at hc
   | gh g9=>simp[hg] at hc
   | rp=>simp[hg] at hc
   | clo=>simp[hg] at hc
   | tup=>simp[hg] at hc
  | dead=>simp[content,hm] at hc
  | lp lf lid live vals j=>simp[content,hm] at hc
  | lst=>simp[content,hm] at hc
  | fz=>simp[content,hm] at hc
 | none=>simp[content] at hc
 | int=>simp[content] at hc
 | bool=>simp[content] at hc
 | str=>simp[content] at hc
 | nilp=>simp[content] at hc
 | nilf=>simp[content] at hc
 | agg=>simp[content] at hc
 | arr=>simp[content] at hc
 | usl=>simp[content] at hc
 | ptr=>simp[content] at hc
 | yld=>simp[content] at hc
 | tr c9 x9 p9=>simp[content] at hc
 | iv x9=>simp[content] at hc
 | gh g9=>simp[content] at hc
 | rp=>simp[content] at hc
 | clo=>simp[content] at hc
 | tup=>simp[content] at hc
end
end Go.V

set_option linter.unusedVariables false
set_option linter.unusedSimpArgs false
namespace Go.V
variable {U:Nat->Type}
section
variable {E:Env U} {w:World} {St:Ck U->Nat->Prop} {ι:Nat->Option Value} {s:S U} {N:Nat} {a:Act} {b:Nat} {o:Oper}
theorem Ops.behind{s1:S U}{wr1 wr2:List (Nat×AObj U)}{v:A U}{St1:Ck U->Nat->Prop}(hs:s1={ s with h:=upds s.h wr1 })(f:∀ n,isLive (s1.h n)=true->isLive (s.h n)=true)(hg:∀ g B,St1 g B->St g B\/Own s ι B)(hk:∀ c x B,St (.kn c x) B->St1 (.kn c x) B)(h:Ops E s1 N a w ι St1 b o wr2 v):Ops E s N a w ι St b o (wr1++wr2) v:=by
 obtain⟨nx,u,w',ι',St',q⟩:=h
 have hO:∀ B,Own s1 ι B->Own s ι B:=fun B ⟨n,h1,h2⟩=>⟨n,f n h1,h2⟩
 subst hs
 refine⟨nx,u,w',ι',St',q.run,q.nxt,by rw[upds_append];exact q.rel,q.val,q.fr.mono fun B _ h=>hO B h,q.nm,q.new,fun B hB=>?_,fun g B h=>(q.gr g B h).elim (hg g B) fun h=>.inr (hO B h),fun c x B h=>q.kn c x B (hk c x B h)⟩
 rw[upds_append] at hB
 exact (q.own B hB).imp (hO B) id
theorem kill_live(h:Nat->AObj U)(m n:Nat)(hl:isLive (upds h [(m,.dead)] n)=true):n≠m/\isLive (h n)=true:=by
 by_cases e:n=m
 ·subst e;simp[upds,isLive] at hl
 ·simp only[upds,upd_ne _ _ e] at hl;exact⟨e,hl⟩
theorem zeroCells_size(z:Array Value)(n:Nat):(Builtin.zeroCells z n).size=n*z.size:=by simp[Builtin.zeroCells]
theorem append_grow_ok(ok:EnvOk2 E){t tx c:TypeId}(ht:E.ty t=.sl c)(hne:E.ty c≠.no)(hby:E.by' c≠0){rt:TypeId}{a':Option Addr}{cap:Nat}{y:Value}{lx l:List (U c)}(hx:SrcOk E w St ι c t (.slice a' lx.length cap) lx)(hy:SrcOk E w St ι c tx y l)
  (hcap:cap<lx.length+l.length) (hroom:room (lx.length+l.length) (E.by' c)) :
  ∃ C w' ds,(Builtin.append_ #[t,tx] rt #[.slice a' lx.length cap,y]).run E.P w=.ok (.slice (some ⟨w.heap.size,0,.none⟩) (lx.length+l.length) C) w'/\Fr (fun _=>False) w w'/\w'.heap.size=w.heap.size+1 ∧
   RC E w St ι ((lx++l).map (E.enc c)) ds []/\w'.rangeAt w.heap.size 0 ds/\thereA (E.ty c≠.int .u8) w' w.heap.size 0 (C*E.sz c)/\lx.length+l.length<=C:=by
 obtain⟨olds,h1,h2⟩:=hx.src
 obtain⟨news,h3,h4⟩:=hy.src
 obtain⟨i,z,hi,hiz,hzs,-⟩:=ok.dfl c hne
 obtain⟨i',hi',hs,hb⟩:=ok.info c hne
 rw[hi] at hi'
 obtain rfl:=Option.some.inj hi'
 rw[<-hs] at h1 h3
 unfold room at hroom
 have hn:lx.length+l.length<=140737488351232:=Nat.le_trans (Nat.le_mul_of_pos_right _ (Nat.pos_of_ne_zero hby)) hroom
 have hrun:=run_append_grow_src (P:=E.P) w t tx rt c i z (under_sl ok ht) hi hiz a' lx.length cap olds h1.cellsD y l.length news h3 hcap (by omega)
  (growslice_fits hcap (by rw[hb];omega))
 have l1:=h2.length ok.toEnvOk
 have l2:=h4.length ok.toEnvOk
 rw[sizes_enc ok.toEnvOk] at l1 l2
 have hC:lx.length+l.length<=grownCap w (lx.length+l.length) cap c:=Nat.le_add_right _ _
 refine⟨_,_,olds++news,hrun,?_,by simp,by rw[List.map_append];exact RC.append h2 h4,?_,?_,hC⟩
 ·exact (Fr.drew _ w).trans (Fr.alloc _ w.drew _)
 ·have:=rangeAt_alloc w.drew ((olds++news).toArray++Builtin.zeroCells z.cells (grownCap w (lx.length+l.length) cap c-(lx.length+l.length))) c
  have h8:((olds++news).toArray++Builtin.zeroCells z.cells (grownCap w (lx.length+l.length) cap c-(lx.length+l.length))).toList=(olds++news)++(Builtin.zeroCells z.cells (grownCap w (lx.length+l.length) cap c-(lx.length+l.length))).toList:=by simp
  rw[h8] at this
  have:=rangeAt_sub this 0 (olds++news).length
  rw[List.drop_zero,List.take_left] at this
  exact this
 ·have:=there_alloc (q:=E.ty c≠.int .u8) w.drew ((olds++news).toArray++Builtin.zeroCells z.cells (grownCap w (lx.length+l.length) cap c-(lx.length+l.length))) c
  have e:((olds++news).toArray++Builtin.zeroCells z.cells (grownCap w (lx.length+l.length) cap c-(lx.length+l.length))).size=grownCap w (lx.length+l.length) cap c*E.sz c:=by
   simp only[Array.size_append,List.size_toArray,List.length_append,zeroCells_size,hzs,l1,l2]
   rw[<-Nat.add_mul,<-Nat.add_mul]
   congr 1
   omega
  rw[e] at this
  simpa using this
theorem append_room_ok(ok:EnvOk2 E){t tx c:TypeId}(ht:E.ty t=.sl c)(hne:E.ty c≠.no){rt:TypeId}{B off:Nat}{cap:Nat}{y:Value}{lx l:List (U c)}{olds:List Value}(hx:RC E w St ι (lx.map (E.enc c)) olds [])(hr:w.rangeAt B off olds)(hT:thereA (E.ty c≠.int .u8) w B off (cap*E.sz c))(hy:SrcOk E w St ι c tx y l)
  (hcap:lx.length+l.length<=cap) :
  ∃ news,(Builtin.append_ #[t,tx] rt #[.slice (some ⟨B,off,.none⟩) lx.length cap,y]).run E.P w=.ok (.slice (some ⟨B,off,.none⟩) (lx.length+l.length) cap) (w.setCells B (off+lx.length*E.sz c) news) ∧
   RC E w St ι ((lx++l).map (E.enc c)) (olds++news) []/\(w.setCells B (off+lx.length*E.sz c) news).rangeAt B off (olds++news):=by
 obtain⟨news,h3,h4⟩:=hy.src
 obtain⟨i,hi,hs,hb⟩:=ok.info c hne
 have l1:=hx.length ok.toEnvOk
 have l2:=h4.length ok.toEnvOk
 rw[sizes_enc ok.toEnvOk] at l1 l2
 have hle:lx.length*E.sz c+l.length*E.sz c<=cap*E.sz c:=by rw[<-Nat.add_mul];exact Nat.mul_le_mul_right _ hcap
 have hsome:∀ j,j<news.length->(w.cell? ⟨B,off+lx.length*E.sz c+j,.none⟩).isSome=true/\w.frozen? ⟨B,off+lx.length*E.sz c+j,.none⟩=false:=by
  intro j hj
  have:=hT.1 (lx.length*E.sz c+j) (by omega)
  rwa [show off+lx.length*E.sz c+j=off+(lx.length*E.sz c+j) by omega]
 have hrun:=run_append_room_src (P:=E.P) w t tx rt c i (under_sl ok ht) hi B off lx.length cap y l.length news (by rw[hs];exact h3) hcap (by rw[hs];exact fun j hj=>(hsome j hj).1) (by rw[hs];exact fun j hj=>(hsome j hj).2)
 rw[hs] at hrun
 refine⟨news,hrun,by rw[List.map_append];exact RC.append hx h4,?_⟩
 intro j v hj
 by_cases h1:j<olds.length
 ·rw[List.getElem?_append_left h1] at hj
  rw[World.cell?_setCells_out _ _ _ _ _ (fun _ _=>.inl (by simp;omega))]
  exact hr j v hj
 ·rw[List.getElem?_append_right (by omega)] at hj
  have hlt:j-olds.length<news.length:=by
   rcases Nat.lt_or_ge (j-olds.length) news.length with h|h
   ·exact h
   ·rw[List.getElem?_eq_none h] at hj;simp at hj
  have:=World.cell?_setCells_in B news (off+lx.length*E.sz c) w (fun j hj=>(hsome j hj).1) (j-olds.length) hlt
  rw[show off+lx.length*E.sz c+(j-olds.length)=off+j by omega] at this
  rw[this,<-hj,List.getElem?_eq_getElem hlt]
theorem append_op{c:Call}(hc:c.callee=.builtin .append)(ho:o.op=.call c){t tx:TypeId}{x y:Operand}(ha:c.args.toList=[x,y])(hat:c.argTypes.toList=[t,tx]){v:Value}{w':World}
  (hr:(Builtin.append_ #[t,tx] o.type #[a.eval x,a.eval y]).run E.P w=.ok v w'):(execOp a.eval o).run E.P w=.ok (.value v) w':=by
 have h1:c.args = #[x,y]:=Array.ext' (by simpa using ha)
 have h2:c.argTypes = #[t,tx]:=Array.ext' (by simpa using hat)
 simp only[execOp,ho,resolve,hc,Sem.run_bind,Sem.run_pure,Result.andThen_ok,invoke,builtin,h1,h2]
 simp[hr]
theorem Ops.grown(ok:EnvOk2 E)(R:Rel E s N a.tmps w ι St)(hb:ι b=none)(hd:isLive (s.h b)=false){t tx c:TypeId}{x y:Operand}{cl:Call}(hc:cl.callee=.builtin .append)(ho:o.op=.call cl)(ha:cl.args.toList=[x,y])(hat:cl.argTypes.toList=[t,tx])
  (ht:E.ty t=.sl c) (hne:E.ty c≠.no) (hby:E.by' c≠0) {a':Option Addr} {cap:Nat} {lx l:List (U c)} (hxv:a.eval x=.slice a' lx.length cap) (hx:SrcOk E w St ι c t (.slice a' lx.length cap) lx) (hy:SrcOk E w St ι c tx (a.eval y) l)
  (hcap:cap<lx.length+l.length) (hroom:room (lx.length+l.length) (E.by' c)):Ops E s N a w ι St b o [(b,.lst c (lx++l))] (.own b):=by
 obtain⟨C,w',ds,h1,h2,h3,h4,h5,h6,h7⟩:=append_grow_ok (rt:=o.type) ok ht hne hby hx hy hcap hroom
 have e:=fresh_ext (v:=some (.slice (some ⟨w.heap.size,0,.none⟩) (lx.length+l.length) C)) hb h2 R.stb
 refine Ops.fresh R hb hd (u:=.slice (some ⟨w.heap.size,0,.none⟩) (lx.length+l.length) C) (x:=.slice (some ⟨w.heap.size,0,.none⟩) (lx.length+l.length) C) (append_op hc ho ha hat (by rw[hxv];exact h1)) h2
  (.inr ⟨w.heap.size,blk_pos (by omega),Nat.le_refl _⟩) ?_ ?_
 ·exact RO.lst_of (by omega) (by simp) (h4.ext e) h5 h6 (by simpa using h7) (by omega)
 ·exact RT.of_rv (.mk1 (.own (upd_same _ _ _) .nil) rfl rfl)
theorem Ops.longer(ok:EnvOk2 E)(R:Rel E s N a.tmps w ι St)(hb:ι b=none)(hd:isLive (s.h b)=false){t tx c:TypeId}{x y:Operand}{cl:Call}(hc:cl.callee=.builtin .append)(ho:o.op=.call cl)(ha:cl.args.toList=[x,y])(hat:cl.argTypes.toList=[t,tx])
  (ht:E.ty t=.sl c) (hne:E.ty c≠.no) {m B off cap:Nat} {lx l:List (U c)} {olds:List Value} (hcap0:0<cap) (hl:isLive (s.h m)=true) (hB:blkO (ι m)=some B) (hsz:B<w.heap.size) (hbm:b≠m) (hxv:a.eval x=.slice (some ⟨B,off,.none⟩) lx.length cap) (hx:RC E w St ι (lx.map (E.enc c)) olds []) (hr:w.rangeAt B off olds) (hT:thereA (E.ty c≠.int .u8) w B off (cap*E.sz c))
  (hy:SrcOk E w St ι c tx (a.eval y) l) (hcap:lx.length+l.length<=cap):Ops E s N a w ι St b o [(m,.dead),(b,.lst c (lx++l))] (.own b):=by
 obtain⟨news,h1,h2,h3⟩:=append_room_ok (rt:=o.type) ok ht hne hx hr hT hy hcap
 have hSt:¬An St B:=R.apt m B hl hB
 generalize hw':w.setCells B (off+lx.length*E.sz c) news=w' at h1 h3
 have hsame:∀ B',B'≠B->w'.heap[B']?=w.heap[B']?:=fun B' h=>by rw[<-hw'];exact heap_setCells B _ _ w B' h
 have hsz':w'.heap.size=w.heap.size:=by rw[<-hw',size_setCells]
 have hx1:Ext w St ι w' St ι:=⟨fun _ _ h=>h,fun _ _ h=>h,fun b hb=>hsame b fun e=>hSt (e▸hb.an),by omega⟩
 have hfree:∀ k,isLive (({ s with h:=upd s.h m .dead }:S U).h k)=true->blkO (ι k)≠some B:=by
  intro k hk hk2
  by_cases e:k=m
  ·subst e;change isLive (upd s.h k .dead k)=true at hk;rw[upd_same] at hk;simp[isLive] at hk
  ·change isLive (upd s.h m .dead k)=true at hk;rw[upd_ne _ _ e] at hk
   exact e (R.dis k m B hk hl hk2 hB)
 have R1:=(R.kill m).world (w':=w') (by omega) (fun B' hB'=>hsame B' fun e=>hSt (e▸hB')) (fun k B' hk hB'=>hsame B' fun e=>hfree k hk (e▸hB'))
 have e1:Ext w' St ι w' St (upd ι b (some (.slice (some ⟨B,off,.none⟩) (lx.length+l.length) cap))):=⟨fun _ _ h=>h,fun n u h=>by
  by_cases e:n=b
  ·subst e;rw[hb] at h;simp at h
  ·rw[upd_ne _ _ e];exact h,fun _ _=>rfl,Nat.le_refl _⟩
 have R2:=R1.adopt b (.lst c (lx++l)) (.slice (some ⟨B,off,.none⟩) (lx.length+l.length) cap) (by
   show isLive (upd s.h m .dead b)=false
   rw[upd_ne _ _ hbm];exact hd) (.inl hb)
  (RO.lst_of (ds:=olds++news) hcap0 (by simp) ((h2.ext hx1).ext e1) h3 (by rw[<-hw'];exact thereA_setCells hT) (by simpa using hcap) (by omega))
  (fun B' _ hB'=>by
   obtain rfl:=(blk_inv hB').1
   exact⟨hSt,hfree⟩)
 refine⟨_,_,w',_,St,append_op hc ho ha hat (by rw[hxv];exact h1),.inl rfl,R2,RT.of_rv (.mk1 (.own (upd_same _ _ _) .nil) rfl rfl),?_,?_,?_,?_,fun _ _ h=>.inl h,fun _ _ _ h=>h⟩
 ·rw[<-hw'];exact Fr.setCells w B _ _ ⟨m,hl,hB⟩
 ·intro n v h
  exact e1.nm n v h
 ·intro n h
  by_cases e:n=b
  ·exact .inr ⟨by omega,by omega⟩
  ·rw[upd_ne _ _ e] at h;exact .inl h
 ·rintro B' ⟨n,h1,h2⟩
  by_cases e:n=b
  ·subst e
   rw[upd_same] at h2
   simp only[blkO,Option.bind_some] at h2
   obtain rfl:=(blk_inv h2).1
   exact .inl ⟨m,hl,hB⟩
  ·rw[upd_ne _ _ e] at h2
   have:isLive (upd (upd s.h m .dead) b (.lst c (lx++l)) n)=true:=h1
   rw[upd_ne _ _ e] at this
   by_cases e2:n=m
   ·subst e2;rw[upd_same] at this;simp[isLive] at this
   ·rw[upd_ne _ _ e2] at this;exact .inl ⟨n,this,h2⟩
end
end Go.V

set_option linter.unusedVariables false
set_option linter.unusedSimpArgs false
namespace Go.V
variable {U:Nat->Type}
section
variable {E:Env U} {w:World} {St:Ck U->Nat->Prop} {ι:Nat->Option Value} {s:S U} {N:Nat} {a:Act} {b:Nat} {o:Oper}
theorem op_append_nils(ok:EnvOk2 E)(R:Rel E s N a.tmps w ι St)(hb:ι b=none)(hd:isLive (s.h b)=false){t tx c:TypeId}{x y:Operand}{cl:Call}(hc:cl.callee=.builtin .append)(ho:o.op=.call cl)(ha:cl.args.toList=[x,y])(hat:cl.argTypes.toList=[t,tx])
  (ht:slOf E t c=true) (hx:s.ev E t x=.nils c) {l:List (U c)} (hy:SrcOk E w St ι c tx (a.eval y) l) (hroom:room l.length (E.by' c)):Ops E s N a w ι St b o [(b,.lst c l)] (.own b):=by
 obtain⟨t1,t2,t3⟩:=slOf_iff' ok ht
 have hv:=ev_ok ok R t x
 rw[hx] at hv
 have hxv:=RV.nils_inv hv
 by_cases hl:l=[]
 ·subst hl
  obtain⟨news,h3,h4⟩:=hy.src
  obtain⟨i,hi,hs,hbb⟩:=ok.info c t2
  have hrun:(Builtin.append_ #[t,tx] o.type #[a.eval x,a.eval y]).run E.P w=.ok (.slice .none 0 0) w:=by
   have hcl:news=[]:=List.eq_nil_of_length_eq_zero (by rw[h3.newsLen];simp)
   subst hcl
   have hc0:(Builtin.firstCells i.size 0 (a.eval y)).run E.P w=.ok #[] w:=by rw[hs];exact h3.cells
   rw[hxv]
   rcases h3.kind with ⟨e',hk⟩|hk<;>simp[Builtin.append_,run_underlying (under_sl ok t1),run_underlying hk,sizeOf,typeInfo,hi,h3.len,hc0]
  have e:=fresh_ext (b:=b) (v:=some (.slice .none 0 0)) hb (Fr.refl (fun _=>False) w) R.stb
  exact Ops.fresh R hb hd (u:=.slice .none 0 0) (x:=.slice .none 0 0) (append_op hc ho ha hat hrun) (Fr.refl _ _) (.inl rfl) (.inl ⟨⟨_,rfl⟩,rfl⟩) (RT.of_rv (.mk1 (.own (upd_same _ _ _) .nil) rfl rfl))
 ·have hlen:0<l.length:=List.length_pos_iff.2 hl
  have:=Ops.grown ok R hb hd hc ho ha hat t1 t2 t3 (lx:=[]) (a':=.none) (cap:=0) (by rw[hxv];rfl) (src_nil (under_sl ok t1) 0) hy (by simpa using hlen) (by simpa using hroom)
  simpa using this
theorem op_append_own(ok:EnvOk2 E)(R:Rel E s N a.tmps w ι St)(hb:ι b=none)(hd:isLive (s.h b)=false){t tx c:TypeId}{x y:Operand}{cl:Call}(hc:cl.callee=.builtin .append)(ho:o.op=.call cl)(ha:cl.args.toList=[x,y])(hat:cl.argTypes.toList=[t,tx])
  (ht:slOf E t c=true) {m:Nat} (hx:s.ev E t x=.own m) {lx:List (U c)} (hm:s.h m=.lst c lx) {l:List (U c)} (hy:SrcOk E w St ι c tx (a.eval y) l) (hroom:room (lx.length+l.length) (E.by' c)) :
  Ops E s N a w ι St b o [(m,.dead),(b,.lst c (lx++l))] (.own b):=by
 obtain⟨t1,t2,t3⟩:=slOf_iff' ok ht
 have hv:=ev_ok ok R t x
 rw[hx] at hv
 obtain⟨a',L,C,h1,h2⟩:=RV.own_inv hv
 have h0:=R.obj m
 rw[hm] at h0
 have hbm:b≠m:=fun e=>by subst e;rw[hb] at h2;simp at h2
 have hl:isLive (s.h m)=true:=by rw[hm];rfl
 have new:∀ (a':Option Addr) (cap:Nat),a.eval x=.slice a' lx.length cap->SrcOk E w St ι c t (.slice a' lx.length cap) lx->cap<lx.length+l.length->Ops E s N a w ι St b o [(m,.dead),(b,.lst c (lx++l))] (.own b):=by
  intro a' cap q1 q2 q3
  refine Ops.behind (wr1:=[(m,.dead)]) (s1:={ s with h:=upds s.h [(m,.dead)] }) (St1:=St) rfl (fun n hn=>(kill_live _ _ _ hn).2) (fun _ _ h=>.inl h) (fun _ _ _ h=>h) ?_
  exact Ops.grown ok (R.kill m) hb (by show isLive (upd s.h m .dead b)=false;rw[upd_ne _ _ hbm];exact hd) hc ho ha hat t1 t2 t3 q1 q2 hy q3 hroom
 rcases h0 with ⟨⟨a0,e1⟩,e2⟩|⟨B,off,cap,ds,e1,e2,e3,e4,e5,e6⟩
 ·rw[h2] at e1
  simp only[Option.some.injEq] at e1
  rw[e1] at h1
  subst e2
  by_cases hl0:l=[]
  ·subst hl0
   refine Ops.behind (wr1:=[(m,.dead)]) (s1:={ s with h:=upds s.h [(m,.dead)] }) (St1:=St) rfl (fun n hn=>(kill_live _ _ _ hn).2) (fun _ _ h=>.inl h) (fun _ _ _ h=>h) ?_
   obtain⟨news,h3,h4⟩:=hy.src
   obtain⟨i,hi,hs,hbb⟩:=ok.info c t2
   have hrun:(Builtin.append_ #[t,tx] o.type #[a.eval x,a.eval y]).run E.P w=.ok (.slice a0 0 0) w:=by
    have hcl:news=[]:=List.eq_nil_of_length_eq_zero (by rw[h3.newsLen];simp)
    subst hcl
    have hc0:(Builtin.firstCells i.size 0 (a.eval y)).run E.P w=.ok #[] w:=by rw[hs];exact h3.cells
    rw[h1]
    rcases h3.kind with ⟨e',hk⟩|hk<;>cases a0<;>simp[Builtin.append_,run_underlying (under_sl ok t1),run_underlying hk,sizeOf,typeInfo,hi,h3.len,hc0,storeCells,Result.andThen]
   exact Ops.fresh (R.kill m) hb (by show isLive (upd s.h m .dead b)=false;rw[upd_ne _ _ hbm];exact hd) (u:=.slice a0 0 0) (x:=.slice a0 0 0) (append_op hc ho ha hat hrun) (Fr.refl _ _) (.inl (by unfold blk;rw[base_zero];rfl)) (.inl ⟨⟨_,rfl⟩,rfl⟩) (RT.of_rv (.mk1 (.own (upd_same _ _ _) .nil) rfl rfl))
  ·have hlen:0<l.length:=List.length_pos_iff.2 hl0
   exact new a0 0 (by rw[h1];rfl) (src_empty (under_sl ok t1) a0 0) (by simpa using hlen)
 ·rw[h2] at e1
  simp only[Option.some.injEq] at e1
  rw[e1] at h1 h2
  by_cases hcap:lx.length+l.length<=cap+1
  ·exact Ops.longer ok R hb hd hc ho ha hat t1 t2 (Nat.succ_pos _) hl (by rw[h2];rfl) e6 hbm h1 e2 e3 e4 hy hcap
  ·exact new _ (cap+1) h1 (src_cells ok (under_sl ok t1) e2 e3) (by omega)
theorem op_append_clip(ok:EnvOk2 E)(R:Rel E s N a.tmps w ι St)(hb:ι b=none)(hd:isLive (s.h b)=false){t tx c:TypeId}{x y:Operand}{cl:Call}(hc:cl.callee=.builtin .append)(ho:o.op=.call cl)(ha:cl.args.toList=[x,y])(hat:cl.argTypes.toList=[t,tx])
  (ht:slOf E t c=true) {g:Bool} {lx:List (U c)} (hx:s.ev E t x=.clip g c lx) {l:List (U c)} (hy:SrcOk E w St ι c tx (a.eval y) l) (hroom:room (lx.length+l.length) (E.by' c)) (hne:lx=[]\/l≠[]) :
  Ops E s N a w ι St b o [(b,.lst c (lx++l))] (.own b):=by
 obtain⟨t1,t2,t3⟩:=slOf_iff' ok ht
 have hv:=ev_ok ok R t x
 rw[hx] at hv
 obtain⟨a0,h1,h2⟩:=RV.clip_inv hv
 by_cases hl0:l=[]
 ·subst hl0
  obtain rfl:=hne.resolve_right (fun h=>h rfl)
  obtain⟨news,h3,h4⟩:=hy.src
  obtain⟨i,hi,hs,hbb⟩:=ok.info c t2
  have hrun:(Builtin.append_ #[t,tx] o.type #[a.eval x,a.eval y]).run E.P w=.ok (.slice a0 0 0) w:=by
   have hcl:news=[]:=List.eq_nil_of_length_eq_zero (by rw[h3.newsLen];simp)
   subst hcl
   have hc0:(Builtin.firstCells i.size 0 (a.eval y)).run E.P w=.ok #[] w:=by rw[hs];exact h3.cells
   rw[h1]
   rcases h3.kind with ⟨e',hk⟩|hk<;>cases a0<;>simp[Builtin.append_,run_underlying (under_sl ok t1),run_underlying hk,sizeOf,typeInfo,hi,h3.len,hc0,storeCells,Result.andThen]
  exact Ops.fresh R hb hd (u:=.slice a0 0 0) (x:=.slice a0 0 0) (append_op hc ho ha hat hrun) (Fr.refl _ _) (.inl (by unfold blk;rw[base_zero];rfl)) (.inl ⟨⟨_,rfl⟩,rfl⟩) (RT.of_rv (.mk1 (.own (upd_same _ _ _) .nil) rfl rfl))
 ·have hlen:0<l.length:=List.length_pos_iff.2 hl0
  refine Ops.grown ok R hb hd hc ho ha hat t1 t2 t3 (lx:=lx) (a':=a0) (cap:=lx.length) h1 ?_ hy (by omega) hroom
  rcases h2 with rfl|⟨ds,B,off,rfl,q1,q2,q3⟩
  ·exact src_empty (under_sl ok t1) a0 _
  ·exact src_cells ok (under_sl ok t1) q1 q2
theorem op_eq_bool(ok:EnvOk2 E)(R:Rel E s N a.tmps w ι St)(op:BinOp)(t ty:TypeId)(x y:Operand)(ho:o.op=.binOp op t x y ty)(ht:E.ty t=.bool){p q:Bool}(hx:s.ev E t x=.bool p)(hy:s.ev E ty y=.bool q){v:A U}(hv:op=.eql/\v=.bool (p==q)\/op=.neq/\v=.bool (!(p==q))) :
  Ops E s N a w ι St b o [] v:=by
 have h1:=ev_ok ok R t x
 have h2:=ev_ok ok R ty y
 rw[hx] at h1;rw[hy] at h2
 have h1:=RV.bool_inv h1
 have h2:=RV.bool_inv h2
 have hu:E.P.underlying t=some .bool:=by have:=ok.under t;rw[ht] at this;exact this
 rcases hv with ⟨rfl,rfl⟩|⟨rfl,rfl⟩
 ·exact Ops.pure R (u:=.bool (p==q)) (by simp[execOp,ho,h1,h2,eqGuard,binOp,Op.equal,Op.maxDepth,run_equalIn_bool w 9999 t p q hu]) (RT.of_rv (.mk1 (.bool .nil) rfl rfl))
 ·exact Ops.pure R (u:=.bool (!(p==q))) (by simp[execOp,ho,h1,h2,eqGuard,binOp,Op.equal,Op.maxDepth,run_equalIn_bool w 9999 t p q hu]) (RT.of_rv (.mk1 (.bool .nil) rfl rfl))
theorem op_store_lst(ok:EnvOk2 E)(R:Rel E s N a.tmps w ι St)(t:TypeId)(x y:Operand)(ho:o.op=.store t x y){n:Nat}{p:List Step}(hx:s.ev E 0 x=.ptr n p){c:Nat}{l:List (U c)}(hn:s.h n=.lst c l){o':AObj U}
  (hf:fits E t (frz s.h (s.ev E t y))=true) (hh:hole (frz s.h (s.ev E t y))=false) (hmem:memN n ((frzN s.h (s.ev E t y)).map (·.1))=false) (hp:setO E (.lst c l) p (frz s.h (s.ev E t y))=some o') :
  Ops E s N a w ι St b o (frzN s.h (s.ev E t y)++[(n,o')]) .none:=by
 have h1:=ev_ok ok R 0 x
 rw[hx] at h1
 obtain⟨u,B,off,q1,q2,q3,q4⟩:=RV.ptr_inv h1
 have h2:=(ev_ok ok R t y).rv (frz_known _ _ (fits_iff hf).1)
 obtain⟨St1,x1,gg,R1,f1,d1⟩:=frz_ok ok (s.ev E t y) (Frz.refl s.h) R h2.1 hh
 have hnot:∀ (l:List (Nat×AObj U)) (h:Nat->AObj U),memN n (l.map (·.1))=false->upds h l n=h n:=by
  intro l
  induction l with
  | nil=>intro h _;rfl
  | cons x l ih=>
   intro h hm
   obtain⟨k,z⟩:=x
   simp only[List.map_cons,memN,Bool.or_eq_false_iff] at hm
   simp only[upds]
   rw[ih _ hm.2,upd_ne]
   intro e
   subst e
   simp at hm
 have hn1:upds s.h (frzN s.h (s.ev E t y)) n=.lst c l:=by rw[hnot _ _ hmem,hn]
 cases p with
 | nil=>simp[setO] at hp
 | cons st p=>
  cases st with
  | elt i e=>
   simp only[setO] at hp
   cases he:Nat.beq (E.sz c) e with
   | false=>rw[he] at hp;simp at hp
   | true=>
    rw[he] at hp
    simp only[cond_true] at hp
    have he':=Nat.eq_of_beq_eq_true he
    subst he'
    cases hsp:setP E (E.enc c (l.getD i (E.dflt c))) p (frz s.h (s.ev E t y)) with
    | none=>rw[hsp] at hp;simp at hp
    | some q=>
     rw[hsp] at hp
     cases hdec:E.dec c q with
     | none=>simp[hdec] at hp
     | some z=>
      simp only[hdec,Option.some.injEq] at hp
      subst hp
      have h0:=R1.obj n
      simp only[hn1] at h0
      rcases h0 with ⟨⟨a0,r1⟩,r2⟩|⟨B',off',cap0,ds,r1,r2,r3,r4,r5,r6⟩
      ·rw[q1] at r1
       simp only[Option.some.injEq] at r1
       subst r1
       simp[base_zero] at q2
      ·rw[q1] at r1
       simp only[Option.some.injEq] at r1
       subst r1
       simp only[base,Option.some.injEq,Prod.mk.injEq] at q2
       obtain⟨rfl,rfl⟩:=q2
       obtain⟨cap,hcap⟩:∃ cap,cap=cap0+1:=⟨_,rfl⟩
       have hcap0:0<cap:=by omega
       rw[<-hcap] at q1 r4 r5
       have hi:i<l.length:=q3.1
       obtain⟨c1,c2,c3,rfl,p1,p2,p3,p4,p5⟩:=r2.elems ok.toEnvOk hi
       obtain⟨g1,g2,g3,g4,g5⟩:=p2.setP ok.toEnvOk p q3.2 hsp d1
       have hv1:RV E w St1 ι (frz s.h (s.ev E t y)) (a.eval y):=by
        refine⟨d1,?_⟩
        rw[h2.2]
        cases hq:s.ev E t y with
        | clip g c l=>cases g<;>rfl
        | own m=>simp only[frz];cases hm:s.h m<;>rfl
        | _=>rfl
       have hlen:c2.length<=cap*E.sz c-i*E.sz c:=by
        have:=Nat.mul_le_mul_right (E.sz c) (show i+1<=cap by omega)
        rw[Nat.add_mul] at this
        omega
       have hcapi:i*E.sz c+E.sz c<=cap*E.sz c:=by
        have:=Nat.mul_le_mul_right (E.sz c) (show i+1<=cap by omega)
        rw[Nat.add_mul] at this
        omega
       have hrun:=store_run ok hf hv1 r4.1 (i:=i*E.sz c+po p) (by omega)
       have hpo:off'+po (.elt i (E.sz c)::p)=off'+(i*E.sz c+po p):=rfl
       rw[hpo] at q4
       have hl:isLive (s.h n)=true:=by rw[hn];rfl
       have hl1:isLive (upds s.h (frzN s.h (s.ev E t y)) n)=true:=by rw[hn1];rfl
       have hB:blkO (ι n)=some B':=by rw[q1];exact blk_pos hcap0
       have hSt:¬An St1 B':=R1.apt n B' hl1 hB
       generalize hw':w.setCells B' (off'+(i*E.sz c+po p)) (a.eval y).cells.toList=w' at hrun
       have hsame:∀ B,B≠B'->w'.heap[B]?=w.heap[B]?:=fun B h=>by rw[<-hw'];exact heap_setCells B' _ _ w B h
       have hsz':w'.heap.size=w.heap.size:=by rw[<-hw',size_setCells]
       have hx1:Ext w St1 ι w' St1 ι:=⟨fun _ _ h=>h,fun _ _ h=>h,fun b hb=>hsame b fun e=>hSt (e▸hb.an),by omega⟩
       have hfree:∀ k,isLive (upd (upds s.h (frzN s.h (s.ev E t y))) n .dead k)=true->blkO (ι k)≠some B':=by
        intro k hk hk2
        by_cases e:k=n
        ·subst e;rw[upd_same] at hk;simp[isLive] at hk
        ·rw[upd_ne _ _ e] at hk
         exact e (R1.dis k n B' hk hl1 hk2 hB)
       have R2:=(R1.kill n).world (w':=w') (by omega) (fun B hB'=>hsame B fun e=>hSt (e▸hB')) (fun k B hk hB'=>hsame B fun e=>hfree k hk (e▸hB'))
       have hι':upd ι n (some (.slice (some ⟨B',off',.none⟩) l.length cap))=ι:=by rw[<-q1,upd_self]
       have hcells:(c1++(c2.take (po p)++((a.eval y).cells.toList++c2.drop (po p+(a.eval y).cells.toList.length))++c3)) =
         (c1++(c2++c3)).take (i*E.sz c+po p)++((a.eval y).cells.toList++(c1++(c2++c3)).drop (i*E.sz c+po p+(a.eval y).cells.toList.length)):=by
        rw[take_mid p4 (by omega),Nat.add_assoc,drop_mid p4 g2]
        simp
       have R3:=R2.adopt n (.lst c (l.set i z)) (.slice (some ⟨B',off',.none⟩) l.length cap) (by
         show isLive (upd (upds s.h (frzN s.h (s.ev E t y))) n .dead n)=false;rw[upd_same];rfl) (.inr q1)
        (by
         rw[hι']
         refine RO.lst_of (B:=B') (off:=off') (cap:=cap) (ds:=c1++(c2.take (po p)++((a.eval y).cells.toList++c2.drop (po p+(a.eval y).cells.toList.length))++c3)) hcap0 (by simp) ?_ ?_ (by rw[<-hw'];exact thereA_setCells r4) (by simpa using r5) (by omega)
         ·have hz:=ok.decEnc c q z hdec
          rw[<-hz] at g1
          have:=(RC.append p1 (RC.cons g1 p3)).ext hx1
          have hm:(l.set i z).map (E.enc c)=(l.take i).map (E.enc c)++E.enc c z::(l.drop (i+1)).map (E.enc c):=by rw[set_cut l i z hi];simp
          rw[hm]
          exact this
         ·rw[hcells,<-hw']
          exact range_splice r3 (by simp only[List.length_append];omega))
        (fun B _ hB2=>by
         obtain rfl:=(blk_inv hB2).1
         exact⟨hSt,hfree⟩)
       rw[hι'] at R3
       have e9:upd (upd (upds s.h (frzN s.h (s.ev E t y))) n .dead) n (.lst c (l.set i z))=upds s.h (frzN s.h (s.ev E t y)++[(n,.lst c (l.set i z))]):=by
        rw[upd_upd,upds_append];rfl
       simp only[] at R3
       rw[e9] at R3
       refine⟨.skip,undef,w',ι,St1,?_,.inr ⟨rfl,rfl⟩,R3,trivial,?_,fun _ _ h=>h,fun _ h=>.inl h,?_,gg,fun c x B h=>x1.st _ _ h⟩
       ·simp[execOp,ho,q4,hrun]
       ·rw[<-hw'];exact Fr.setCells w B' _ _ ⟨n,hl,hB⟩
       ·rintro B ⟨k,k1,k2⟩
        by_cases e:k=n
        ·subst e;exact .inl ⟨k,hl,k2⟩
        ·have k1':isLive (upds s.h (frzN s.h (s.ev E t y)++[(n,.lst c (l.set i z))]) k)=true:=k1
         rw[upds_append] at k1'
         simp only[upds,upd_ne _ _ e] at k1'
         exact .inl ⟨k,f1.live k1',k2⟩
  | _=>simp[setO] at hp
end
end Go.V

set_option linter.unusedVariables false
set_option linter.unusedSimpArgs false
namespace Go.V
variable {U:Nat->Type}
section
variable {E:Env U} {w:World} {St:Ck U->Nat->Prop} {ι:Nat->Option Value} {s:S U} {N:Nat} {a:Act} {b:Nat} {o:Oper}
theorem cut_to_end{α:Type}(l:List α)(i:Nat):cut l i (l.length-i)=l.drop i:=by unfold cut;exact List.take_of_length_le (by simp)
theorem op_slice_clip(ok:EnvOk2 E)(R:Rel E s N a.tmps w ι St)(t:TypeId)(x:Operand)(lo:Option Operand)(hi mx:Operand)(ho:o.op=.slice t x lo (some hi) (some mx)){g:Bool}{c:Nat}{l:List (U c)}(hx:s.ev E t x=.ro g c l)(ht:slOf E t c=true)
  {i j:Int} {k k':IntKind} (h1:optI 0 (lo.map (s.ev E 0))=some i) (h2:s.ev E 0 hi=.int k j) (h3:s.ev E 0 mx=.int k' j) (b0:0<=i) (b1:i<=j) (b2:j<=(l.length:Int)) :
  Ops E s N a w ι St b o [] (.clip g c (cut l i.toNat (j-i).toNat)):=by
 obtain⟨t1,t2⟩:=slOf_iff ok ht
 have hv:=ev_ok ok R t x
 rw[hx] at hv
 obtain⟨a',cap,q1,q2⟩:=RV.ro_inv hv
 have i1:=optI_ok ok R 0 lo h1
 have i2:=ev_ok ok R 0 hi
 rw[h2] at i2
 have i2:=RV.int_inv i2
 have i3:=ev_ok ok R 0 mx
 rw[h3] at i3
 have i3:=RV.int_inv i3
 have hcap:l.length<=cap:=by
  rcases q2 with rfl|⟨ds,B,off,rfl,q3,q4,q5,q6⟩
  ·simp
  ·exact q6
 have hlen:(cut l i.toNat (j-i).toNat).length=(j-i).toNat:=by simp only[cut,List.length_take,List.length_drop];omega
 obtain⟨inf,hinf,hs,-⟩:=ok.info c t2
 have hb:(Instr.sliceBounds true l.length cap (lo.map a.eval) (some (a.eval hi)) (some (a.eval mx))).run E.P w=.ok (i.toNat,j.toNat,j.toNat) w:=by
  have b3:∀ cc,(Instr.sliceBound (.int k' j) cap cc).run E.P w=.ok j.toNat w:=fun cc=>bound_run k' j cap cc (by omega) (by omega)
  have b4:∀ cc,(Instr.sliceBound (.int k j) j.toNat cc).run E.P w=.ok j.toNat w:=fun cc=>bound_run k j j.toNat cc (by omega) (by omega)
  rw[i2,i3]
  rcases i1 with ⟨e1,rfl⟩|⟨k2,e1⟩
  ·rw[e1];simp[Instr.sliceBounds,b3,b4]
  ·have b5:∀ cc,(Instr.sliceBound (.int k2 i) j.toNat cc).run E.P w=.ok i.toNat w:=fun cc=>bound_run k2 i j.toNat cc b0 (by omega)
   rw[e1];simp[Instr.sliceBounds,b3,b4,b5]
 have hrun:(Instr.sliceAt t (a.eval x) (lo.map a.eval) (some (a.eval hi)) (some (a.eval mx))).run E.P w=.ok (.slice (if j.toNat=i.toNat then a' else a'.map (·.add (i.toNat*E.sz c))) (j.toNat-i.toNat) (j.toNat-i.toNat)) w:=by
  rw[q1]
  simp[Instr.sliceAt,Instr.slice,run_underlying (under_sl ok t1),hb,sizeOf,typeInfo,hinf,hs]
 refine Ops.pure R (u:=_) (by simp only[execOp,ho,Option.map_some];rw[Sem.run_bind,hrun];rfl) (RT.of_rv (.mk1 ?_ rfl rfl))
 by_cases hz:(j-i).toNat=0
 ·have hnil:cut l i.toNat (j-i).toNat=[]:=List.eq_nil_of_length_eq_zero (by omega)
  rw[hnil,show j.toNat-i.toNat=0 by omega]
  exact .clipE .nil
 ·rw[if_neg (by omega)]
  rcases q2 with rfl|⟨ds,B,off,rfl,q3,q4,q5,q6⟩
  ·simp at b2;omega
  ·simp only[Option.map_some,Addr.add_eq]
   obtain⟨es,p1,p2⟩:=cut_cells ok.toEnvOk (i:=i.toNat) (len:=(j-i).toNat) q3 q4 (by omega)
   have:=RC.clip (w:=w) (St:=St) (ι:=ι) (b:=g) (c:=c) p1 p2 q5 .nil
   rw[hlen] at this
   rwa [show j.toNat-i.toNat=(j-i).toNat by omega]
theorem op_slice_rp(ok:EnvOk2 E)(R:Rel E s N a.tmps w ι St)(t:TypeId)(x:Operand)(ho:o.op=.slice t x none none none){g:Bool}{c i:Nat}{l:List (U c)}{p:List Step}(hx:s.ev E t x=.rp g c l i p){n e:Nat}(ht:E.ty t=.arr n e)(hne:isNo (E.ty e)=false)
  {r:List (U e)} (hr:getP E (E.enc c (l.getD i (E.dflt c))) p=.arr e n r):Ops E s N a w ι St b o [] (.ro g e r):=by
 have hv:=ev_ok ok R t x
 rw[hx] at hv
 obtain⟨ds,B,off,q1,q2,q3,q4,q5,q6⟩:=RV.rp_inv hv
 obtain⟨es,p1,p2⟩:=elem_at ok.toEnvOk q1 q2 q4 q5 (by rw[hr];rfl)
 rw[hr] at p1
 obtain⟨p3,p4,-⟩:=p1.arr_inv
 have hne':E.ty e≠.no:=fun h=>by rw[h] at hne;cases hne
 obtain⟨inf,hinf,hs,-⟩:=ok.info e hne'
 have hrun:(Instr.sliceAt t (a.eval x) none none none).run E.P w=.ok (.slice (some ⟨B,off+(i*E.sz c+po p),.none⟩) n n) w:=by
  rw[q6]
  simp[Instr.sliceAt,Instr.sliceBounds,Instr.sureAddr,run_underlying (under_arr ok ht),sizeOf,typeInfo,hinf,hs,Addr.add_eq]
 refine Ops.pure R (u:=.slice (some ⟨B,off+(i*E.sz c+po p),.none⟩) n n) (by simp only[execOp,ho,Option.map_none];rw[Sem.run_bind,hrun];rfl) (RT.of_rv (.mk1 ?_ rfl rfl))
 subst p3
 exact .ro p4 p2 q3 (Nat.le_refl _) .nil
theorem op_slice_box(ok:EnvOk2 E)(R:Rel E s N a.tmps w ι St)(t:TypeId)(x:Operand)(lo hi:Option Operand)(ho:o.op=.slice t x lo hi none){m:Nat}{p:List Step}(hx:s.ev E t x=.ptr m p){q:A U}(hm:s.h m=.box q){n e:Nat}(ht:E.ty t=.arr n e)(hne:isNo (E.ty e)=false)
  {i j:Int} (h1:optI 0 (lo.map (s.ev E 0))=some i) (h2:optI (n:Int) (hi.map (s.ev E 0))=some j) (b0:0<=i) (b1:i<=j) (b2:j<=(n:Int)) :
  Ops E s N a w ι St b o [] (.bsl m p e n i.toNat (j-i).toNat):=by
 have hv:=ev_ok ok R t x
 rw[hx] at hv
 obtain⟨u,B,off,q1,q2,q3,q4⟩:=RV.ptr_inv hv
 have h0:=R.obj m
 rw[hm] at h0
 obtain⟨B',cs,r1,r2,r3,r4,r5⟩:=h0
 rw[q1] at r1
 simp only[Option.some.injEq] at r1
 subst r1
 simp only[base,Option.some.injEq,Prod.mk.injEq] at q2
 obtain⟨rfl,rfl⟩:=q2
 have i1:=optI_ok ok R 0 lo h1
 have i2:=optI_ok ok R _ hi h2
 have hne':E.ty e≠.no:=fun h=>by rw[h] at hne;cases hne
 obtain⟨inf,hinf,hs,-⟩:=ok.info e hne'
 have hb:=bounds_run (E:=E) (w:=w) false n n (lo.map a.eval) (hi.map a.eval) i j i1 i2 b0 b1 b2 (Nat.le_refl _)
 have hrun:(Instr.sliceAt t (a.eval x) (lo.map a.eval) (hi.map a.eval) none).run E.P w=.ok (.slice (some (if n=i.toNat then ⟨B',0+po p,.none⟩ else ⟨B',0+po p+i.toNat*E.sz e,.none⟩)) (j.toNat-i.toNat) (n-i.toNat)) w:=by
  rw[q4]
  simp[Instr.sliceAt,Instr.sureAddr,run_underlying (under_arr ok ht),hb,sizeOf,typeInfo,hinf,hs,Addr.add_eq]
 refine Ops.pure R (u:=_) (by simp only[execOp,ho,Option.map_none];rw[Sem.run_bind,hrun];rfl) (RT.of_rv (.mk1 ?_ rfl rfl))
 rw[show j.toNat-i.toNat=(j-i).toNat by omega]
 refine .bsl q1 (by omega) (by omega) (by omega) ?_ q3 .nil
 by_cases h:n=i.toNat
 ·exact .inl (by omega)
 ·rw[if_neg h,Nat.zero_add];exact .inr rfl
theorem op_buildSlice0(ok:EnvOk2 E)(R:Rel E s N a.tmps w ι St)(hb:ι b=none)(hd:isLive (s.h b)=false)(t e:TypeId)(n:Nat)(ps:Array (Nat×Operand))(ho:o.op=.buildSlice t n ps)(ht:E.ty t=.sl e)(hne:isNo (E.ty e)=false)(hn:n=0)(hp:ps.toList=[]) :
  Ops E s N a w ι St b o [(b,.lst e [])] (.own b):=by
 have hne':E.ty e≠.no:=fun h=>by rw[h] at hne;cases hne
 obtain⟨inf,hinf,hs,-⟩:=ok.info e hne'
 obtain rfl:ps = #[]:=Array.toList_eq_nil_iff.1 hp
 subst hn
 have hrun:(Instr.buildSlice t 0 #[]).run E.P w=.ok (.slice (some ⟨w.heap.size,0,.none⟩) 0 0) (w.alloc (.cells #[] e)):=by
  simp[Instr.buildSlice,run_underlying (under_sl ok ht),sizeOf,typeInfo,hinf,Instr.fill,newRow,run_newObj_alloc,Sem.run_bind,Result.andThen]
  congr 2
  exact Array.toList_inj.1 (by simp)
 refine Ops.fresh R hb hd (u:=.slice (some ⟨w.heap.size,0,.none⟩) 0 0) (x:=.slice (some ⟨w.heap.size,0,.none⟩) 0 0) (w':=w.alloc (.cells #[] e)) ?_ (Fr.alloc _ _ _) (.inl (by unfold blk;rw[base_zero];rfl)) (.inl ⟨⟨_,rfl⟩,rfl⟩) (RT.of_rv (.mk1 (.own (upd_same _ _ _) .nil) rfl rfl))
 simp only[execOp,ho]
 rw[Sem.run_bind]
 rw[Array.map_empty,hrun]
 rfl
theorem run_equal_nil{P:Program}(w:World){t e:TypeId}(h:P.underlying t=some (.slice e))(a':Option Addr)(n cap:Nat):(Op.equal t (.slice a' n cap) (.slice none 0 0)).run P w=.ok a'.isNone w:=by
 show (Op.equalIn (9999+1) t _ _).run P w=_
 unfold Op.equalIn
 cases a'<;>simp[run_underlying h]
theorem op_nil(ok:EnvOk2 E)(R:Rel E s N a.tmps w ι St)(op:BinOp)(t ty:TypeId)(x y:Operand)(ho:o.op=.binOp op t x y ty){c:Nat}(ht:slOf E t c=true){q:Cont U}(hx:content E s.h (s.ev E t x)=some q)(hb:isBsl (s.ev E t x)=false)(hy:a.eval y=.slice .none 0 0) :
  ∃ r:Bool,(r=true->q.l=[])/\(op=.eql->Ops E s N a w ι St b o [] (.bool r))/\(op=.neq->Ops E s N a w ι St b o [] (.bool (!r))):=by
 obtain⟨t1,t2⟩:=slOf_iff ok ht
 have hv:=ev_ok ok R t x
 have key:∃ a' n cap,a.eval x=.slice a' n cap/\(a'=none->q.l=[]):=by
  cases hu:s.ev E t x with
  | nils c'=>
   rw[hu] at hx hv
   obtain rfl:=Option.some.inj hx
   exact⟨_,_,_,RV.nils_inv hv,fun _=>rfl⟩
  | ro g c' l'=>
   rw[hu] at hx hv
   obtain rfl:=Option.some.inj hx
   obtain⟨a',cap,h1,h2⟩:=RV.ro_inv hv
   refine⟨_,_,_,h1,fun e=>?_⟩
   rcases h2 with h|⟨ds,B,off,rfl,-⟩
   ·exact h
   ·cases e
  | clip g c' l'=>
   rw[hu] at hx hv
   obtain rfl:=Option.some.inj hx
   obtain⟨a',h1,h2⟩:=RV.clip_inv hv
   refine⟨_,_,_,h1,fun e=>?_⟩
   rcases h2 with h|⟨ds,B,off,rfl,-⟩
   ·exact h
   ·cases e
  | own m=>
   rw[hu] at hx hv
   obtain⟨a',L,C,h1,h2⟩:=RV.own_inv hv
   have key:s.h m=.lst q.c q.l\/s.h m=.fz q.c q.l:=by
    cases hm:s.h m with
    | lst c' l'=>simp only[content,hm] at hx;obtain rfl:=Option.some.inj hx;exact .inl rfl
    | fz c' l'=>simp only[content,hm] at hx;obtain rfl:=Option.some.inj hx;exact .inr rfl
    | dead=>simp[content,hm] at hx
    | box q=>simp[content,hm] at hx
    | lp lf lk live vals j=>simp[content,hm] at hx
   obtain⟨rfl,h3⟩:=R.own_at key h2
   refine⟨_,_,_,h1,fun e=>?_⟩
   rcases h3 with h|⟨B,off,ds,rfl,-⟩
   ·exact h
   ·cases e
  | sub m c' i len=>rw[hu] at hb;cases hb
  | bsl m p c' M i len=>rw[hu] at hb;cases hb
  | _=>rw[hu] at hx;simp[content] at hx
 obtain⟨a',n,cap,h1,h2⟩:=key
 refine⟨a'.isNone,fun h=>h2 (by simpa using h),fun e=>?_,fun e=>?_⟩
 ·subst e
  refine Ops.pure R (u:=.bool a'.isNone) ?_ (RT.of_rv (.mk1 (.bool .nil) rfl rfl))
  simp[execOp,ho,h1,hy,eqGuard,binOp,run_equal_nil w (under_sl ok t1)]
 ·subst e
  refine Ops.pure R (u:=.bool (!a'.isNone)) ?_ (RT.of_rv (.mk1 (.bool .nil) rfl rfl))
  simp[execOp,ho,h1,hy,eqGuard,binOp,run_equal_nil w (under_sl ok t1)]
end
end Go.V
