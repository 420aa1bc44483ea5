/- V: VCall, VCall2, VLay, VProc, VLend -/
import Derived.Test.YtnmecdecebdfiaaDoorVJ04
import Derived.CallsIn
set_option linter.unusedVariables false
set_option linter.unusedSimpArgs false
namespace Go.V
variable {U:Nat->Type}
def RVb(E:Env U)(w:World)(St:Ck U->Nat->Prop):List (A U)->List Value->List Nat->Prop
 | [],[],bs=>bs=[]
 | a::l,v::vs,bs=>∃ b1 b2,bs=b1++b2/\RC E w St noNm [a] v.cells.toList b1/\isAggV v=isAgg a/\RVb E w St l vs b2
 | _,_,_=>False
def RTb(E:Env U)(w:World)(St:Ck U->Nat->Prop)(a:A U)(v:Value)(bs:List Nat):Prop:=
 match a with
 | .tup l=>∃ vs,v=.tuple vs/\RVb E w St l vs.toList bs
 | a=>RC E w St noNm [a] v.cells.toList bs/\isAggV v=isAgg a
structure Result' (E:Env U) (w:World) (St:Ck U->Nat->Prop) (K:A U->List (AObj U)->Prop) (v:Value) (w':World) (r:A U) (bs:List Nat) (St':Ck U->Nat->Prop):Prop where
 k:K r []
 val:RTb E w' St' r v bs
 fr:Fr (KnB St) w w'
 sup:Sup E w' St'
 kn:∀ c x B,St (.kn c x) B->St' (.kn c x) B
 new:∀ B∈bs,w.heap.size<=B/\B<w'.heap.size/\¬An St' B
 dis:bs.Nodup
 gr:∀ g B,St' g B->St g B\/w.heap.size<=B
 lt:∀ B,An St' B->B<w'.heap.size
def FnSound(E:Env U)(f:FuncId)(args:List (A U))(K:A U->List (AObj U)->Prop):Prop:=
 (∃ fn,E.P.funcs[f]?=some fn/\fn.body.isSome=true/\(fn.name == "runtime.NumGoroutine")=false) ∧
 ∀ (w:World) (St:Ck U->Nat->Prop) (vs:Array Value),RVs E w St noNm args vs.toList->(∀ B,An St B->B<w.heap.size)->Sup E w St →
  Calls E.P f vs w fun e w'=>∃ r v bs St',e=.returned v/\Result' E w St K v w' r bs St'
section
variable {E:Env U} {w:World} {St:Ck U->Nat->Prop} {ι:Nat->Option Value} {s:S U} {N:Nat} {a:Act} {b:Nat} {o:Oper}
def isMem(o:AObj U):Bool:=isLst o||isBox o
def Lent(s:S U)(ι:Nat->Option Value)(l:List Nat)(B:Nat):Prop:=∃ m∈l,isMem (s.h m)=true/\blkO (ι m)=some B
def StC(s:S U)(St:Ck U->Nat->Prop)(ι:Nat->Option Value)(l:List Nat)(g:Ck U)(B:Nat):Prop:=match g with
 | .on true=>AnR St B\/Lent s ι l B
 | .on false=>St (.on false) B
 | .kn c x=>St (.kn c x) B
theorem StC.stay{l:List Nat}(B:Nat)(h:St (.on false) B):StC s St ι l (.on false) B:=h
theorem StC.any{l:List Nat}(g:Ck U)(B:Nat)(h:St g B):StC s St ι l g B:=by
 cases g with
 | kn c x=>exact h
 | on b=>
  cases b
  ·exact h
  ·exact .inl ⟨_,h⟩
theorem StC.lent{l:List Nat}(m B:Nat)(hm:m∈l)(hl:isLst (s.h m)=true)(h:blkO (ι m)=some B):StC s St ι l (.on true) B:=.inr ⟨m,hm,by unfold isMem;rw[hl];rfl,h⟩
theorem app_nil{α:Type}{l m:List α}(h:l++m=[]):l=[]/\m=[]:=by simpa using h
theorem sizes_of{sz:Nat->Nat}{l m:List (A U)}(h:l.map (fun a=>(size sz a,isAgg a))=m.map (fun a=>(size sz a,isAgg a))):sizes sz l=sizes sz m:=by
 induction l generalizing m with
 | nil=>cases m with|nil=>rfl|cons _ _=>simp at h
 | cons a l ih=>
  cases m with
  | nil=>simp at h
  | cons b m=>
   simp only[List.map_cons,List.cons.injEq,Prod.mk.injEq] at h
   simp[sizes,h.1.1,ih h.2]
mutual
theorem inA_ok(ok:EnvOk2 E){tm:Array Value}(R:Rel E s N tm w ι St)(L:List Nat):∀ (q:A U) {cs:List Value},RC E w St ι [q] cs []->hole (inA E s.h [] q)=false->ptrs q=[]->(∀ m∈owns q,m∈L) →
  RC E w (StC s St ι L) noNm [inA E s.h [] q] cs []/\isAgg (inA E s.h [] q)=isAgg q/\size E.sz (inA E s.h [] q)=size E.sz q
 | .own m,cs,hc,hh,hp,hL=>by
  obtain⟨v,rfl,hv⟩:=hc.own_inv
  have h0:=R.obj m
  cases hm:s.h m with
  | lst c l=>
   rw[hm] at h0
   simp only[inA,hm]
   refine⟨?_,rfl,rfl⟩
   rcases h0 with ⟨⟨a0,h1⟩,h2⟩|⟨B,off,cap,ds,h1,h2,h3,h4,h5,h6⟩
   ·rw[hv] at h1
    obtain rfl:=Option.some.inj h1
    subst h2
    exact .roE .nil
   ·rw[hv] at h1
    obtain rfl:=Option.some.inj h1
    exact .ro (h2.encs ok.toEnvOk StC.stay) h3 (StC.lent m B (hL m (by simp[owns])) (by rw[hm];rfl) (by rw[hv];rfl)) h5 .nil
  | fz c l=>
   rw[hm] at h0
   simp only[inA,hm]
   refine⟨?_,rfl,rfl⟩
   obtain⟨v',h1,h2⟩:=h0
   rw[hv] at h1
   obtain rfl:=Option.some.inj h1
   cases h2 with
   | roE _=>exact .roE .nil
   | ro q1 q2 q3 q4 _=>exact .ro (q1.encs ok.toEnvOk StC.stay) q2 (.inl ⟨_,q3⟩) q4 .nil
  | dead=>simp[inA,hm,hole] at hh
  | lp lf lid live vals j=>simp[inA,hm,hole] at hh
  | box q=>simp[inA,hm,hole] at hh
 | .sub m c i len,cs,hc,hh,hp,hL=>by
  have hc':∃ a a' L C cap,ι m=some (.slice a L C)/\i+len<=L/\len<=cap/\i+cap<=C/\(cap=0\/a'=a.map (·.add (i*E.sz c)))/\cs=[.slice a' len cap]:=by
   cases hc with
   | sub h1 h2 h3 h4 h5 h6=>cases h6;exact⟨_,_,_,_,_,h1,h2,h3,h4,h5,rfl⟩
  obtain⟨a0,a1,L0,C,cap,r1,r2,r3,r4,r5,rfl⟩:=hc'
  have key:∃ l',(s.h m=.lst c l'\/s.h m=.fz c l')/\content E s.h (.sub m c i len)=some ⟨[m],c,cut l' i len⟩:=by
   simp only[inA] at hh
   cases hm:s.h m with
   | lst c' l'=>
    cases hb:Nat.beq c' c with
    | false=>simp[content,hm,hb,hole] at hh
    | true=>
     have:=Nat.eq_of_beq_eq_true hb
     subst this
     exact⟨l',.inl rfl,by simp[content,hm]⟩
   | fz c' l'=>
    cases hb:Nat.beq c' c with
    | false=>simp[content,hm,hb,hole] at hh
    | true=>
     have:=Nat.eq_of_beq_eq_true hb
     subst this
     exact⟨l',.inr rfl,by simp[content,hm]⟩
   | dead=>simp[content,hm,hole] at hh
   | lp lf lid live vals j=>simp[content,hm,hole] at hh
   | box q=>simp[content,hm,hole] at hh
  obtain⟨l',h1,h2⟩:=key
  simp only[inA,h2]
  refine⟨?_,rfl,rfl⟩
  obtain⟨rfl,q⟩:=R.own_at h1 r1
  have hlen:(cut l' i len).length=len:=by simp only[cut,List.length_take,List.length_drop];omega
  by_cases hz:len=0
  ·have:cut l' i len=[]:=List.eq_nil_of_length_eq_zero (by omega)
   rw[this,hz]
   exact .roE .nil
  ·rcases q with rfl|⟨B,off,ds,rfl,q1,q2,q3⟩
   ·simp at r2;omega
   ·have ha:=r5.resolve_left (by omega)
    simp only[Option.map_some,Addr.add_eq] at ha
    subst ha
    obtain⟨es,p1,p2⟩:=cut_cells ok.toEnvOk q1 q2 r2
    have h3:RC E w (StC s St ι L) noNm [.ro true c (cut l' i len)] [.slice (some ⟨B,off+i*E.sz c,.none⟩) (cut l' i len).length cap] []:=by
     refine .ro (p1.encs ok.toEnvOk StC.stay) p2 ?_ (by omega) .nil
     rcases h1 with h1|h1
     ·exact StC.lent m B (hL m (by simp[owns])) (by rw[h1];rfl) (by rw[r1];exact blk_pos (by omega))
     ·have h0:=R.obj m
      rw[h1] at h0
      obtain⟨v',e1,e2⟩:=h0
      rw[r1] at e1
      obtain rfl:=Option.some.inj e1
      have hne:l'≠[]:=by intro e;subst e;simp at r2;omega
      obtain⟨a2,cap2,k1,k2⟩:=RV.ro_inv (RV.mk1 e2 rfl rfl)
      simp only[Value.slice.injEq] at k1
      obtain⟨rfl,-,-⟩:=k1
      obtain⟨ds2,B2,off2,k3,-,-,k4,-⟩:=k2.resolve_left hne
      simp only[Option.some.injEq,Addr.mk.injEq,and_true] at k3
      obtain⟨rfl,-⟩:=k3
      simp only[StC,if_true]
      exact .inl ⟨_,k4⟩
    rw[hlen] at h3
    exact h3
 | .agg l,cs,hc,hh,hp,hL=>by
  simp only[inA]
  obtain⟨h1,h2⟩:=inAs_ok ok R L l hc.agg_inv (by simpa[inA,hole] using hh) (by simpa[ptrs] using hp) (by simpa[owns] using hL)
  refine⟨by simpa using RC.agg h1 .nil,rfl,?_⟩
  simp only[size]
  exact sizes_of h2
 | .clo f l,cs,hc,hh,hp,hL=>by
  simp only[inA]
  have hc':∃ vs:Array Value,cs=[fv f vs]/\RC E w St ι l ((vs.toList.map (·.cells.toList)).flatten) []/\vs.toList.map (fun v=>(v.cells.size,isAggV v))=l.map (fun a=>(size E.sz a,isAgg a)):=by
   cases hc with
   | clo h1 h2 h3=>cases h3;exact⟨_,rfl,h1,h2⟩
  obtain⟨vs,rfl,h3,h4⟩:=hc'
  obtain⟨h1,h2⟩:=inAs_ok ok R L l h3 (by simpa[inA,hole] using hh) (by simpa[ptrs] using hp) (by simpa[owns] using hL)
  exact⟨.clo h1 (h4.trans h2.symm) .nil,rfl,rfl⟩
 | .nils c,cs,hc,hh,hp,hL=>by
  cases hc;rename_i hn;cases hn
  exact⟨.roE .nil,rfl,rfl⟩
 | .none,cs,hc,hh,hp,hL=>by cases hc
 | .tup l,cs,hc,hh,hp,hL=>by cases hc
 | .usl c l,cs,hc,hh,hp,hL=>by simp[inA,hole] at hh
 | .bsl m p c M i len,cs,hc,hh,hp,hL=>by
  obtain⟨B,a1,cap,r1,r2,r3,r4,r5,r6,rfl⟩:∃ B a1 cap,ι m=some (.pointer (some ⟨B,0,.none⟩))/\i+len<=M/\len<=cap/\i+cap<=M/\(cap=0\/a1=some ⟨B,po p+i*E.sz c,.none⟩)/\vp 0 p/\cs=[.slice a1 len cap]:=by
   cases hc with
   | bsl h1 h2 h3 h4 h5 h6 h7=>cases h7;exact⟨_,_,_,h1,h2,h3,h4,h5,h6,rfl⟩
  simp only[inA] at hh ⊢
  cases hm:s.h m with
  | box q0=>
   simp only[content,hm] at hh ⊢
   cases hg:getP E q0 p with
   | arr c' M' l'=>
    simp only[hg] at hh ⊢
    cases hb:(Nat.beq c c'&&Nat.beq M M') with
    | false=>rw[hb] at hh;simp[hole] at hh
    | true=>
     simp only[cond_true]
     simp only[Bool.and_eq_true] at hb
     have e1:=Nat.eq_of_beq_eq_true hb.1
     have e2:=Nat.eq_of_beq_eq_true hb.2
     subst e1;subst e2
     refine⟨?_,rfl,rfl⟩
     have h0:=R.obj m
     rw[hm] at h0
     obtain⟨B',cs',h1,h2,h3,h4,h5⟩:=h0
     rw[r1] at h1
     simp only[Option.some.injEq,Value.pointer.injEq,Addr.mk.injEq,and_true] at h1
     subst h1
     obtain⟨g1,g2⟩:=h2.getP ok.toEnvOk p r6 (by rw[hg];rfl)
     rw[hg] at g1 g2
     obtain⟨g3,g4,-⟩:=g1.arr_inv
     have hlen:(cut l' i len).length=len:=by simp only[cut,List.length_take,List.length_drop];omega
     by_cases hz:len=0
     ·have:cut l' i len=[]:=List.eq_nil_of_length_eq_zero (by omega)
      simp only[this]
      rw[hz]
      exact .roE .nil
     ·have ha:=r5.resolve_left (by omega)
      subst ha
      have hr:=rangeAt_sub h3 (po p) (size E.sz (.arr c M l':A U))
      rw[Nat.zero_add] at hr
      obtain⟨es,p1,p2⟩:=cut_cells ok.toEnvOk g4 hr (by omega:i+len<=l'.length)
      have h9:RC E w (StC s St ι L) noNm [.ro true c (cut l' i len)] [.slice (some ⟨B,po p+i*E.sz c,.none⟩) (cut l' i len).length cap] []:=
       .ro (p1.encs ok.toEnvOk StC.stay) p2 (.inr ⟨m,hL m (by simp[owns]),by rw[hm];rfl,by rw[r1];rfl⟩) (by omega) .nil
      rwa [hlen] at h9
   | _=>simp[hg,hole] at hh
  | dead=>simp[content,hm,hole] at hh
  | lst _ _=>simp[content,hm,hole] at hh
  | fz _ _=>simp[content,hm,hole] at hh
  | lp lf lid live vals j=>simp[content,hm,hole] at hh
 | .ptr ..,cs,hc,hh,hp,hL=>by simp[ptrs] at hp
 | .yld ..,cs,hc,hh,hp,hL=>by simp[ptrs] at hp
 | .tr c9 x9 p9,cs,hc,hh,hp,hL=>⟨by cases hc with|tr h1 hn=>cases hn;exact .tr (h1.mono StC.any) .nil,rfl,rfl⟩
 | .iv x9,cs,hc,hh,hp,hL=>⟨by cases hc;rename_i hv hn;cases hn;exact .iv hv .nil,rfl,rfl⟩
 | .gh g9,cs,hc,hh,hp,hL=>⟨by cases hc;rename_i hn;cases hn;exact .gh .nil,rfl,rfl⟩
 | .int k n,cs,hc,hh,hp,hL=>⟨by cases hc;rename_i hn;cases hn;exact .int .nil,rfl,rfl⟩
 | .bool k,cs,hc,hh,hp,hL=>⟨by cases hc;rename_i hn;cases hn;exact .bool .nil,rfl,rfl⟩
 | .str k,cs,hc,hh,hp,hL=>⟨by cases hc;rename_i hn;cases hn;exact .str .nil,rfl,rfl⟩
 | .nilp,cs,hc,hh,hp,hL=>⟨by cases hc;rename_i hn;cases hn;exact .nilp .nil,rfl,rfl⟩
 | .nilf,cs,hc,hh,hp,hL=>⟨by cases hc;rename_i hn;cases hn;exact .nilf .nil,rfl,rfl⟩
 | .arr c n xs,cs,hc,hh,hp,hL=>by
  obtain⟨h1,h2,-⟩:=hc.arr_inv
  exact⟨by simpa[inA] using RC.arr h1 (h2.encs ok.toEnvOk StC.stay) .nil,rfl,rfl⟩
 | .ro g c xs,cs,hc,hh,hp,hL=>by
  refine⟨?_,rfl,rfl⟩
  simp only[inA]
  cases hc with
  | roE hn=>cases hn;exact .roE .nil
  | ro h1 h2 h3 h4 hn=>cases hn;exact .ro (h1.encs ok.toEnvOk StC.stay) h2 (StC.any _ _ h3) h4 .nil
 | .clip g c xs,cs,hc,hh,hp,hL=>by
  refine⟨?_,rfl,rfl⟩
  simp only[inA]
  cases hc with
  | clipE hn=>cases hn;exact .clipE .nil
  | clip h1 h2 h3 hn=>cases hn;exact .clip (h1.encs ok.toEnvOk StC.stay) h2 (StC.any _ _ h3) .nil
 | .rp g c xs i p,cs,hc,hh,hp,hL=>by
  refine⟨?_,rfl,rfl⟩
  simp only[inA]
  cases hc with
  | rp h1 h2 h3 h4 h5 hn=>cases hn;exact .rp (h1.encs ok.toEnvOk StC.stay) h2 (StC.any _ _ h3) h4 h5 .nil
theorem inAs_ok(ok:EnvOk2 E){tm:Array Value}(R:Rel E s N tm w ι St)(L:List Nat):∀ (q:List (A U)) {cs:List Value},RC E w St ι q cs []->holes (inAs E s.h [] q)=false->ptrss q=[]->(∀ m∈ownss q,m∈L) →
  RC E w (StC s St ι L) noNm (inAs E s.h [] q) cs []/\(inAs E s.h [] q).map (fun a=>(size E.sz a,isAgg a))=q.map (fun a=>(size E.sz a,isAgg a))
 | [],cs,hc,hh,hp,hL=>by cases hc;exact⟨.nil,rfl⟩
 | q::l,cs,hc,hh,hp,hL=>by
  obtain⟨c1,c2,b1,b2,rfl,hb,h1,h2⟩:=RC.cons_inv hc
  obtain⟨rfl,rfl⟩:=nil_or hb
  simp only[inAs,holes,Bool.or_eq_false_iff] at hh
  simp only[ptrss] at hp
  obtain⟨hp1,hp2⟩:=app_nil hp
  obtain⟨i1,i2,i3⟩:=inA_ok ok R L q h1 hh.1 hp1 (fun m hm=>hL m (by simp[ownss,hm]))
  obtain⟨j1,j2⟩:=inAs_ok ok R L l h2 hh.2 hp2 (fun m hm=>hL m (by simp[ownss,hm]))
  exact⟨by simp only[inAs];simpa using RC.cons i1 j1,by simp only[inAs,List.map_cons,i2,i3,j2]⟩
end
end
end Go.V

set_option linter.unusedVariables false
set_option linter.unusedSimpArgs false
namespace Go.V
variable {U:Nat->Type}
section
variable {E:Env U} {w:World} {St:Ck U->Nat->Prop} {N:Nat} {tm:Array Value}
structure Named (E:Env U) (s:S U) (N:Nat) (tm:Array Value) (w:World) (ι:Nat->Option Value) (St:Ck U->Nat->Prop) (wr:List (Nat×AObj U)) (M n n':Nat) (bs:List Nat) (ι':Nat->Option Value):Prop where
 rel:Rel E { s with h:=upds s.h wr } N tm w ι' St
 nm:∀ m v,ι m=some v->ι' m=some v
 new:∀ m,ι' m≠none->ι m≠none\/(n<=m/\m<n')
 le:n<=n'
 free:∀ m,n'<=m->m<M->ι' m=none/\isLive (upds s.h wr m)=false
 own:∀ B,Own { s with h:=upds s.h wr } ι' B->Own s ι B\/B∈bs
theorem Named.refl{s:S U}{ι:Nat->Option Value}{M n:Nat}{bs:List Nat}(R:Rel E s N tm w ι St)(hf:∀ m,n<=m->m<M->ι m=none/\isLive (s.h m)=false):Named E s N tm w ι St [] M n n bs ι:=
 ⟨R,fun _ _ h=>h,fun _ h=>.inl h,Nat.le_refl _,hf,fun _ h=>.inl h⟩
theorem ext_names{ι ι':Nat->Option Value}(h:∀ m v,ι m=some v->ι' m=some v):Ext w St ι w St ι':=⟨fun _ _ h=>h,h,fun _ _=>rfl,Nat.le_refl _⟩
theorem usl_inv{c:Nat}{xs:List (U c)}{cs:List Value}{bs:List Nat}{ι:Nat->Option Value}(h:RC E w St ι [.usl c xs] cs bs) :
  (xs=[]/\(∃ a,cs=[.slice a 0 0])/\bs=[])\/∃ B off cap ds,cs=[.slice (some ⟨B,off,.none⟩) xs.length cap]/\bs=[B]/\RC E w St ι (xs.map (E.enc c)) ds []/\w.rangeAt B off ds/\thereA (E.ty c≠.int .u8) w B off (cap*E.sz c)/\xs.length<=cap/\B<w.heap.size:=by
 cases h with
 | uslE h=>cases h;exact .inl ⟨rfl,⟨_,rfl⟩,rfl⟩
 | usl h1 h2 h3 h4 h5 h6=>cases h6;exact .inr ⟨_,_,_,_,rfl,rfl,h1,h2,h3,h4,h5⟩
mutual
theorem nameA_le(b:Nat):∀ (q:A U) (n:Nat),n<=(nameA [] b q n).2.2
 | .usl c xs,n=>by simp[nameA]
 | .agg l,n=>by simpa[nameA] using nameAs_le b l n
 | .tup l,n=>by simpa[nameA] using nameAs_le b l n
 | .clo f l,n=>by simpa[nameA] using nameAs_le b l n
 | .none,n=>Nat.le_refl _
 | .own m,n=>Nat.le_refl _
 | .sub m c i len,n=>Nat.le_refl _
 | .bsl m p c M i len,n=>Nat.le_refl _
 | .ptr m p,n=>Nat.le_refl _
 | .yld m,n=>Nat.le_refl _
 | .tr c9 x9 p9,n=>Nat.le_refl _
 | .iv x9,n=>Nat.le_refl _
 | .gh g9,n=>Nat.le_refl _
 | .int k m,n=>Nat.le_refl _
 | .bool k,n=>Nat.le_refl _
 | .str k,n=>Nat.le_refl _
 | .nilp,n=>Nat.le_refl _
 | .nilf,n=>Nat.le_refl _
 | .nils c,n=>Nat.le_refl _
 | .arr c k xs,n=>Nat.le_refl _
 | .ro g c xs,n=>Nat.le_refl _
 | .clip g c xs,n=>Nat.le_refl _
 | .rp g c xs i p,n=>Nat.le_refl _
theorem nameAs_le(b:Nat):∀ (q:List (A U)) (n:Nat),n<=(nameAs [] b q n).2.2
 | [],n=>Nat.le_refl _
 | q::l,n=>by simpa[nameAs] using Nat.le_trans (nameA_le b q n) (nameAs_le b l _)
end
mutual
theorem nameA_ok(ok:EnvOk2 E)(b:Nat):∀ (q:A U) {s:S U} {ι:Nat->Option Value} {cs:List Value} {bs:List Nat} {M n:Nat},Rel E s N tm w ι St->RC E w St noNm [q] cs bs->ptrs q=[] →
  (∀ m,n<=m->m<M->ι m=none/\isLive (s.h m)=false)->(nameA [] b q n).2.2<=M->bs.Nodup->(∀ B∈bs,¬An St B/\¬Own s ι B) →
  ∃ ι',Named E s N tm w ι St (nameA [] b q n).2.1 M n (nameA [] b q n).2.2 bs ι'/\RC E w St ι' [(nameA [] b q n).1] cs []/\isAgg (nameA [] b q n).1=isAgg q/\size E.sz (nameA [] b q n).1=size E.sz q
 | .usl c xs,s,ι,cs,bs,M,n,R,hc,hp,hf,hM,hd,hb=>by
  simp only[nameA]
  obtain⟨f1,f2⟩:=hf n (Nat.le_refl _) (by simp only[nameA] at hM;omega)
  have fin:∀ v,RO E w St (upd ι n (some v)) (.lst c xs) (some v)->(∀ B,blk v=some B->B∈bs)->cs=[v]->(∃ a L C,v=.slice a L C) →
    ∃ ι',Named E s N tm w ι St [(n,.lst c xs)] M n (n+1) bs ι'/\RC E w St ι' [(.own n:A U)] cs []/\isAgg (.own n:A U)=isAgg (.usl c xs:A U)/\size E.sz (.own n:A U)=size E.sz (.usl c xs:A U):=by
   rintro v ho hB rfl ⟨a,L,C,rfl⟩
   have R1:=R.adopt n (.lst c xs) (.slice a L C) f2 (.inl f1) ho (fun B _ h=>⟨(hb B (hB B h)).1,fun m h1 h2=>(hb B (hB B h)).2 ⟨m,h1,h2⟩⟩)
   have hnm:∀ m v,ι m=some v->upd ι n (some (.slice a L C)) m=some v:=fun m v h=>by
    by_cases e:m=n
    ·subst e;rw[f1] at h;simp at h
    ·rw[upd_ne _ _ e];exact h
   refine⟨_,⟨R1,hnm,fun m h=>?_,by omega,fun m h hm=>?_,fun B hB2=>?_⟩,.own (upd_same _ _ _) .nil,rfl,rfl⟩
   ·by_cases e:m=n
    ·exact .inr (by omega)
    ·rw[upd_ne _ _ e] at h;exact .inl h
   ·have e:m≠n:=by omega
    simp only[upds,upd_ne _ _ e]
    exact hf m (by omega) hm
   ·obtain⟨m,h1,h2⟩:=hB2
    by_cases e:m=n
    ·subst e;rw[upd_same] at h2;exact .inr (hB B h2)
    ·rw[upd_ne _ _ e] at h2
     simp only[upds,upd_ne _ _ e] at h1
     exact .inl ⟨m,h1,h2⟩
  rcases usl_inv hc with ⟨rfl,⟨a0,h2⟩,-⟩|⟨B,off,cap,ds,h1,h2,h3,h4,h5,h6,h7⟩
  ·exact fin _ (.inl ⟨⟨_,rfl⟩,rfl⟩) (fun B h=>by unfold blk at h;rw[base_zero] at h;cases h) h2 ⟨_,_,_,rfl⟩
  ·refine fin _ ?_ (fun B' h=>?_) h1 ⟨_,_,_,rfl⟩
   ·rcases Nat.eq_zero_or_pos cap with h0|h0
    ·subst h0
     have hx:xs=[]:=List.eq_nil_of_length_eq_zero (by omega)
     subst hx
     exact .inl ⟨⟨_,rfl⟩,rfl⟩
    ·exact RO.lst_of h0 rfl (h3.encs ok.toEnvOk (fun _ h=>h)) h4 h5 h6 h7
   ·rw[(blk_inv h).1,h2];simp
 | .agg l,s,ι,cs,bs,M,n,R,hc,hp,hf,hM,hd,hb=>by
  simp only[nameA]
  obtain⟨ι',h1,h2,h3⟩:=nameAs_ok ok b l R hc.agg_inv (by simpa[ptrs] using hp) hf (by simpa[nameA] using hM) hd hb
  exact⟨ι',h1,by simpa using RC.agg h2 .nil,rfl,by simp only[size];exact sizes_of h3⟩
 | .clo f l,s,ι,cs,bs,M,n,R,hc,hp,hf,hM,hd,hb=>by
  simp only[nameA]
  have hc':bs=[]/\∃ vs:Array Value,cs=[fv f vs]/\RC E w St noNm l ((vs.toList.map (·.cells.toList)).flatten) []/\vs.toList.map (fun v=>(v.cells.size,isAggV v))=l.map (fun a=>(size E.sz a,isAgg a)):=by
   cases hc with
   | clo h1 h2 h3=>cases h3;exact⟨rfl,_,rfl,h1,h2⟩
  obtain⟨rfl,vs,rfl,h4,h5⟩:=hc'
  obtain⟨ι',h1,h2,h3⟩:=nameAs_ok ok b l R h4 (by simpa[ptrs] using hp) hf (by simpa[nameA] using hM) hd hb
  exact⟨ι',h1,.clo h2 (h5.trans h3.symm) .nil,rfl,rfl⟩
 | .none,s,ι,cs,bs,M,n,R,hc,hp,hf,hM,hd,hb=>by cases hc
 | .tup l,s,ι,cs,bs,M,n,R,hc,hp,hf,hM,hd,hb=>by cases hc
 | .own m,s,ι,cs,bs,M,n,R,hc,hp,hf,hM,hd,hb=>by cases hc with|own h _=>simp[noNm] at h
 | .sub m c i len,s,ι,cs,bs,M,n,R,hc,hp,hf,hM,hd,hb=>by cases hc with|sub h _ _ _ _ _=>simp[noNm] at h
 | .bsl m p c M' i len,s,ι,cs,bs,M,n,R,hc,hp,hf,hM,hd,hb=>by cases hc with|bsl h _ _ _ _ _ _=>simp[noNm] at h
 | .ptr m p,s,ι,cs,bs,M,n,R,hc,hp,hf,hM,hd,hb=>by simp[ptrs] at hp
 | .yld m,s,ι,cs,bs,M,n,R,hc,hp,hf,hM,hd,hb=>by simp[ptrs] at hp
 | .tr c9 x9 p9,s,ι,cs,bs,M,n,R,hc,hp,hf,hM,hd,hb=>by
  refine⟨ι,Named.refl R hf,?_,rfl,rfl⟩
  simp only[nameA]
  cases hc with
  | tr h1 hn=>cases hn;exact .tr h1 .nil
 | .gh g9,s,ι,cs,bs,M,n,R,hc,hp,hf,hM,hd,hb=>by
  refine⟨ι,Named.refl R hf,?_,rfl,rfl⟩
  simp only[nameA]
  cases hc with
  | gh hn=>cases hn;exact .gh .nil
 | .int k m,s,ι,cs,bs,M,n,R,hc,hp,hf,hM,hd,hb=>⟨ι,Named.refl R hf,by simp only[nameA];cases hc;rename_i hn;cases hn;exact .int .nil,rfl,rfl⟩
 | .bool k,s,ι,cs,bs,M,n,R,hc,hp,hf,hM,hd,hb=>⟨ι,Named.refl R hf,by simp only[nameA];cases hc;rename_i hn;cases hn;exact .bool .nil,rfl,rfl⟩
 | .iv x9,s,ι,cs,bs,M,n,R,hc,hp,hf,hM,hd,hb=>⟨ι,Named.refl R hf,by simp only[nameA];cases hc;rename_i hv hn;cases hn;exact .iv hv .nil,rfl,rfl⟩
 | .str k,s,ι,cs,bs,M,n,R,hc,hp,hf,hM,hd,hb=>⟨ι,Named.refl R hf,by simp only[nameA];cases hc;rename_i hn;cases hn;exact .str .nil,rfl,rfl⟩
 | .nilp,s,ι,cs,bs,M,n,R,hc,hp,hf,hM,hd,hb=>⟨ι,Named.refl R hf,by simp only[nameA];cases hc;rename_i hn;cases hn;exact .nilp .nil,rfl,rfl⟩
 | .nilf,s,ι,cs,bs,M,n,R,hc,hp,hf,hM,hd,hb=>⟨ι,Named.refl R hf,by simp only[nameA];cases hc;rename_i hn;cases hn;exact .nilf .nil,rfl,rfl⟩
 | .nils c,s,ι,cs,bs,M,n,R,hc,hp,hf,hM,hd,hb=>⟨ι,Named.refl R hf,by simp only[nameA];cases hc;rename_i hn;cases hn;exact .nils .nil,rfl,rfl⟩
 | .arr c k xs,s,ι,cs,bs,M,n,R,hc,hp,hf,hM,hd,hb=>by
  obtain⟨h1,h2,rfl⟩:=hc.arr_inv
  exact⟨ι,Named.refl R hf,by simpa[nameA] using RC.arr h1 (h2.encs ok.toEnvOk (fun _ h=>h)) .nil,rfl,rfl⟩
 | .ro g c xs,s,ι,cs,bs,M,n,R,hc,hp,hf,hM,hd,hb=>by
  refine⟨ι,Named.refl R hf,?_,rfl,rfl⟩
  simp only[nameA]
  cases hc with
  | roE hn=>cases hn;exact .roE .nil
  | ro h1 h2 h3 h4 hn=>cases hn;exact .ro (h1.encs ok.toEnvOk (fun _ h=>h)) h2 h3 h4 .nil
 | .clip g c xs,s,ι,cs,bs,M,n,R,hc,hp,hf,hM,hd,hb=>by
  refine⟨ι,Named.refl R hf,?_,rfl,rfl⟩
  simp only[nameA]
  cases hc with
  | clipE hn=>cases hn;exact .clipE .nil
  | clip h1 h2 h3 hn=>cases hn;exact .clip (h1.encs ok.toEnvOk (fun _ h=>h)) h2 h3 .nil
 | .rp g c xs i p,s,ι,cs,bs,M,n,R,hc,hp,hf,hM,hd,hb=>by
  refine⟨ι,Named.refl R hf,?_,rfl,rfl⟩
  simp only[nameA]
  cases hc with
  | rp h1 h2 h3 h4 h5 hn=>cases hn;exact .rp (h1.encs ok.toEnvOk (fun _ h=>h)) h2 h3 h4 h5 .nil
theorem nameAs_ok(ok:EnvOk2 E)(b:Nat):∀ (q:List (A U)) {s:S U} {ι:Nat->Option Value} {cs:List Value} {bs:List Nat} {M n:Nat},Rel E s N tm w ι St->RC E w St noNm q cs bs->ptrss q=[] →
  (∀ m,n<=m->m<M->ι m=none/\isLive (s.h m)=false)->(nameAs [] b q n).2.2<=M->bs.Nodup->(∀ B∈bs,¬An St B/\¬Own s ι B) →
  ∃ ι',Named E s N tm w ι St (nameAs [] b q n).2.1 M n (nameAs [] b q n).2.2 bs ι'/\RC E w St ι' (nameAs [] b q n).1 cs []/\(nameAs [] b q n).1.map (fun a=>(size E.sz a,isAgg a))=q.map (fun a=>(size E.sz a,isAgg a))
 | [],s,ι,cs,bs,M,n,R,hc,hp,hf,hM,hd,hb=>by cases hc;exact⟨ι,Named.refl R hf,.nil,rfl⟩
 | q::l,s,ι,cs,bs,M,n,R,hc,hp,hf,hM,hd,hb=>by
  obtain⟨c1,c2,b1,b2,rfl,rfl,h1,h2⟩:=RC.cons_inv hc
  obtain⟨p1,p2⟩:=app_nil (by simpa[ptrss] using hp:ptrs q++ptrss l=[])
  obtain⟨d1,d2,d3⟩:=List.nodup_append.1 hd
  obtain⟨ι1,n1,r1,a1,z1⟩:=nameA_ok ok b q R h1 p1 hf (Nat.le_trans (nameAs_le b l _) (by simpa[nameAs] using hM)) d1 (fun B hB=>hb B (List.mem_append_left _ hB))
  obtain⟨ι2,n2,r2,m2⟩:=nameAs_ok ok b l n1.rel h2 p2 n1.free (by simpa[nameAs] using hM) d2 (fun B hB=>⟨(hb B (List.mem_append_right _ hB)).1,fun ho=>by
   rcases n1.own B ho with h|h
   ·exact (hb B (List.mem_append_right _ hB)).2 h
   ·exact d3 B h B hB rfl⟩)
  refine⟨ι2,⟨?_,fun m v h=>n2.nm m v (n1.nm m v h),fun m h=>?_,Nat.le_trans n1.le n2.le,fun m h hm=>?_,fun B h=>?_⟩,?_,?_⟩
  ·simp only[nameAs,upds_append];exact n2.rel
  ·simp only[nameAs]
   rcases n2.new m h with h|h
   ·rcases n1.new m h with h|h
    ·exact .inl h
    ·exact .inr ⟨h.1,Nat.lt_of_lt_of_le h.2 n2.le⟩
   ·exact .inr ⟨Nat.le_trans n1.le h.1,h.2⟩
  ·simp only[nameAs,upds_append] at h ⊢;exact n2.free m h hm
  ·simp only[nameAs,upds_append] at h
   rcases n2.own B h with h|h
   ·rcases n1.own B h with h|h
    ·exact .inl h
    ·exact .inr (List.mem_append_left _ h)
   ·exact .inr (List.mem_append_right _ h)
  ·simp only[nameAs]
   simpa using RC.cons (r1.ext (ext_names n2.nm)) r2
  ·simp only[nameAs,List.map_cons,a1,z1,m2]
end
theorem fzOf_ok(ok:EnvOk2 E):∀ (l:List Nat) {s:S U} {h':Nat->AObj U} {ι:Nat->Option Value} {St:Ck U->Nat->Prop},Frz s.h h'->Rel E { s with h:=h' } N tm w ι St →
  (∀ n c x,s.h n=.lst c x->h' n=.fz c x->∀ B,blkO (ι n)=some B->∀ g:Bool,St (.on g) B) →
  ∃ St',Ext w St ι w St' ι/\(∀ g B,St' g B->St g B\/Own s ι B)/\Rel E { s with h:=upds h' (fzOf s.h l) } N tm w ι St'/\Frz s.h (upds h' (fzOf s.h l)) ∧
   (∀ m∈l,isLst (s.h m)=true->∀ B,blkO (ι m)=some B->∀ g:Bool,St' (.on g) B)
 | [],s,h',ι,St,f,R,hs=>⟨St,Ext.refl,fun _ _ h=>.inl h,R,f,by simp⟩
 | m::l,s,h',ι,St,f,R,hs=>by
  cases hm:s.h m with
  | lst c x=>
   have e:fzOf s.h (m::l)=(m,.fz c x)::fzOf s.h l:=by simp[fzOf,hm]
   rw[e]
   simp only[upds]
   rcases f m with h1|⟨c',l',h1,h2⟩
   ·obtain⟨St1,x1,g1,R1,q,q2⟩:=R.freeze (m:=m) (c:=c) (l:=x) (by show h' m=_;rw[h1,hm])
    have f1:Frz s.h (upd h' m (.fz c x)):=fun n=>by
     by_cases e:n=m
     ·subst e;exact .inr ⟨c,x,hm,upd_same _ _ _⟩
     ·rw[upd_ne _ _ e];exact f n
    obtain⟨St2,x2,g2,R2,f2,p2⟩:=fzOf_ok ok l (s:=s) f1 R1 (fun n c' x' h1 h2 B hB g=>by
     by_cases e:n=m
     ·subst e;exact q2 B hB g
     ·rw[upd_ne _ _ e] at h2;exact x1.st _ _ (hs n c' x' h1 h2 B hB g))
    refine⟨St2,x1.trans x2,fun g B h=>(g2 g B h).elim (fun h=>(g1 g B h).imp id fun ⟨n,h1,h2⟩=>⟨n,f.live h1,h2⟩) .inr,R2,f2,fun k hk hl B hB g=>?_⟩
    rcases List.mem_cons.1 hk with rfl|hk
    ·exact x2.st _ _ (q2 B hB g)
    ·exact p2 k hk hl B hB g
   ·rw[hm] at h1
    obtain⟨rfl,h1⟩:=AObj.lst.inj h1
    obtain rfl:=eq_of_heq h1
    have e:upd h' m (.fz c x)=h':=by rw[<-h2,upd_self]
    rw[e]
    obtain⟨St2,x2,g2,R2,f2,p2⟩:=fzOf_ok ok l (s:=s) f R hs
    refine⟨St2,x2,g2,R2,f2,fun k hk hl B hB g=>?_⟩
    rcases List.mem_cons.1 hk with rfl|hk
    ·exact x2.st _ _ (hs k c x hm h2 B hB g)
    ·exact p2 k hk hl B hB g
  | dead=>
   have e:fzOf s.h (m::l)=fzOf s.h l:=by simp[fzOf,hm]
   rw[e]
   obtain⟨St2,x2,g2,R2,f2,p2⟩:=fzOf_ok ok l (s:=s) f R hs
   exact⟨St2,x2,g2,R2,f2,fun k hk hl=>by rcases List.mem_cons.1 hk with rfl|hk;(rw[hm] at hl;simp[isLst] at hl);exact p2 k hk hl⟩
  | lp lf lid live vals j=>
   have e:fzOf s.h (m::l)=fzOf s.h l:=by simp[fzOf,hm]
   rw[e]
   obtain⟨St2,x2,g2,R2,f2,p2⟩:=fzOf_ok ok l (s:=s) f R hs
   exact⟨St2,x2,g2,R2,f2,fun k hk hl=>by rcases List.mem_cons.1 hk with rfl|hk;(rw[hm] at hl;simp[isLst] at hl);exact p2 k hk hl⟩
  | box q=>
   have e:fzOf s.h (m::l)=fzOf s.h l:=by simp[fzOf,hm]
   rw[e]
   obtain⟨St2,x2,g2,R2,f2,p2⟩:=fzOf_ok ok l (s:=s) f R hs
   exact⟨St2,x2,g2,R2,f2,fun k hk hl=>by rcases List.mem_cons.1 hk with rfl|hk;(rw[hm] at hl;simp[isLst] at hl);exact p2 k hk hl⟩
  | fz c x=>
   have e:fzOf s.h (m::l)=fzOf s.h l:=by simp[fzOf,hm]
   rw[e]
   obtain⟨St2,x2,g2,R2,f2,p2⟩:=fzOf_ok ok l (s:=s) f R hs
   exact⟨St2,x2,g2,R2,f2,fun k hk hl=>by rcases List.mem_cons.1 hk with rfl|hk;(rw[hm] at hl;simp[isLst] at hl);exact p2 k hk hl⟩
end
end Go.V

set_option linter.unusedVariables false
set_option linter.unusedSimpArgs false
namespace Go.V
variable {U:Nat->Type}
theorem memN_iff{n:Nat}:∀ {l:List Nat},memN n l=true↔n∈l
 | []=>by simp[memN]
 | m::l=>by
  simp only[memN,Bool.or_eq_true,List.mem_cons,memN_iff (l:=l)]
  constructor
  ·rintro (h|h)
   ·exact .inl (Nat.eq_of_beq_eq_true h).symm
   ·exact .inr h
  ·rintro (h|h)
   ·exact .inl (by rw[h];exact Nat.beq_refl m)
   ·exact .inr h
theorem memN_false{n:Nat}{l:List Nat}:memN n l=false↔n∉l:=by
 rw[<-memN_iff];simp
theorem upds_notin{α:Type}{f:Nat->α}{n:Nat}:∀ {l:List (Nat×α)},n∉l.map (·.1)->upds f l n=f n:=by
 intro l
 induction l generalizing f with
 | nil=>intro _;rfl
 | cons x l ih=>
  intro h
  simp only[List.map_cons,List.mem_cons,not_or] at h
  simp only[upds]
  rw[ih h.2,upd_ne _ _ h.1]
section
variable {E:Env U} {w:World} {St:Ck U->Nat->Prop} {N:Nat} {tm:Array Value}
theorem Rel.dead{s:S U}{ι:Nat->Option Value}{tm:Array Value}(R:Rel E s N tm w ι St){n:Nat}(h:ι n=none):isLive (s.h n)=false:=by
 have h0:=R.obj n
 rw[h] at h0
 cases hn:s.h n with
 | dead=>rfl
 | lp lf lid live vals j=>rw[hn] at h0;obtain⟨r,L,e,-⟩:=h0;simp at e
 | fz c l=>rfl
 | box q=>rw[hn] at h0;obtain⟨B,cs,e,-⟩:=h0;simp at e
 | lst c l=>rw[hn] at h0;rcases h0 with ⟨e,-⟩|⟨B,off,cap,ds,e,-⟩<;>simp at e
mutual
theorem denil_le:∀ (q:A U) (n:Nat),n<=(denil q n).2.2
 | .nils c,n=>by simp[denil]
 | .agg l,n=>by simpa[denil] using denils_le l n
 | .usl c xs,n=>Nat.le_refl _
 | .tup l,n=>Nat.le_refl _
 | .clo f l,n=>Nat.le_refl _
 | .none,n=>Nat.le_refl _
 | .own m,n=>Nat.le_refl _
 | .sub m c i len,n=>Nat.le_refl _
 | .bsl m p c M i len,n=>Nat.le_refl _
 | .ptr m p,n=>Nat.le_refl _
 | .yld m,n=>Nat.le_refl _
 | .tr c9 x9 p9,n=>Nat.le_refl _
 | .iv x9,n=>Nat.le_refl _
 | .gh g9,n=>Nat.le_refl _
 | .int k m,n=>Nat.le_refl _
 | .bool k,n=>Nat.le_refl _
 | .str k,n=>Nat.le_refl _
 | .nilp,n=>Nat.le_refl _
 | .nilf,n=>Nat.le_refl _
 | .arr c k xs,n=>Nat.le_refl _
 | .ro g c xs,n=>Nat.le_refl _
 | .clip g c xs,n=>Nat.le_refl _
 | .rp g c xs i p,n=>Nat.le_refl _
theorem denils_le:∀ (q:List (A U)) (n:Nat),n<=(denils q n).2.2
 | [],n=>Nat.le_refl _
 | q::l,n=>by simpa[denils] using Nat.le_trans (denil_le q n) (denils_le l _)
end
theorem Named.trans{s:S U}{ι ι1 ι2:Nat->Option Value}{wr1 wr2:List (Nat×AObj U)}{M n1 n2 n3:Nat}(h1:Named E s N tm w ι St wr1 M n1 n2 [] ι1)(h2:Named E { s with h:=upds s.h wr1 } N tm w ι1 St wr2 M n2 n3 [] ι2) :
  Named E s N tm w ι St (wr1++wr2) M n1 n3 [] ι2:=by
 refine⟨?_,fun m v h=>h2.nm m v (h1.nm m v h),fun m h=>?_,Nat.le_trans h1.le h2.le,fun m h hm=>?_,fun B h=>?_⟩
 ·rw[upds_append];exact h2.rel
 ·rcases h2.new m h with h|h
  ·exact (h1.new m h).imp id fun h=>⟨h.1,Nat.lt_of_lt_of_le h.2 h2.le⟩
  ·exact .inr ⟨Nat.le_trans h1.le h.1,h.2⟩
 ·rw[upds_append];exact h2.free m h hm
 ·rw[upds_append] at h
  rcases h2.own B h with h|h
  ·exact h1.own B h
  ·cases h
theorem nils_named{s:S U}{ι:Nat->Option Value}{M n:Nat}(c:Nat)(R:Rel E s N tm w ι St)(hf:∀ m,n<=m->m<M->ι m=none/\isLive (s.h m)=false)(hM:n+1<=M) :
  Named E s N tm w ι St [(n,.lst c [])] M n (n+1) [] (upd ι n (some (.slice .none 0 0))):=by
 obtain⟨f1,f2⟩:=hf n (Nat.le_refl _) (by omega)
 have R1:=R.adopt n (.lst c []) (.slice .none 0 0) f2 (.inl f1) (.inl ⟨⟨_,rfl⟩,rfl⟩) (fun B _ h=>by simp[blk,base] at h)
 have hnm:∀ m v,ι m=some v->upd ι n (some (.slice .none 0 0)) m=some v:=fun m v h=>by
  by_cases e:m=n
  ·subst e;rw[f1] at h;simp at h
  ·rw[upd_ne _ _ e];exact h
 refine⟨R1,hnm,fun m h=>?_,by omega,fun m h hm=>?_,fun B hB2=>?_⟩
 ·by_cases e:m=n
  ·exact .inr (by omega)
  ·rw[upd_ne _ _ e] at h;exact .inl h
 ·have e:m≠n:=by omega
  simp only[upds,upd_ne _ _ e]
  exact hf m (by omega) hm
 ·obtain⟨m,h1,h2⟩:=hB2
  by_cases e:m=n
  ·subst e;rw[upd_same] at h2;simp[blkO,blk,base] at h2
  ·rw[upd_ne _ _ e] at h2
   simp only[upds,upd_ne _ _ e] at h1
   exact .inl ⟨m,h1,h2⟩
mutual
theorem denil_ok:∀ (q:A U) {s:S U} {ι:Nat->Option Value} {cs:List Value} {M n:Nat},Rel E s N tm w ι St->RC E w St ι [q] cs []->(∀ m,n<=m->m<M->ι m=none/\isLive (s.h m)=false)->(denil q n).2.2<=M →
  ∃ ι',Named E s N tm w ι St (denil q n).2.1 M n (denil q n).2.2 [] ι'/\RC E w St ι' [(denil q n).1] cs []/\isAgg (denil q n).1=isAgg q/\size E.sz (denil q n).1=size E.sz q
 | .nils c,s,ι,cs,M,n,R,hc,hf,hM=>by
  simp only[denil] at hM ⊢
  refine⟨_,nils_named c R hf hM,?_,rfl,rfl⟩
  cases hc;rename_i hn;cases hn
  exact .own (upd_same _ _ _) .nil
 | .agg l,s,ι,cs,M,n,R,hc,hf,hM=>by
  simp only[denil] at hM ⊢
  obtain⟨ι',h1,h2,h3⟩:=denils_ok l R hc.agg_inv hf hM
  exact⟨ι',h1,by simpa using RC.agg h2 .nil,rfl,by simp only[size];exact sizes_of h3⟩
 | .usl c xs,s,ι,cs,M,n,R,hc,hf,hM=>⟨ι,Named.refl R hf,hc,rfl,rfl⟩
 | .tup l,s,ι,cs,M,n,R,hc,hf,hM=>⟨ι,Named.refl R hf,hc,rfl,rfl⟩
 | .clo f l,s,ι,cs,M,n,R,hc,hf,hM=>⟨ι,Named.refl R hf,hc,rfl,rfl⟩
 | .none,s,ι,cs,M,n,R,hc,hf,hM=>⟨ι,Named.refl R hf,hc,rfl,rfl⟩
 | .own m,s,ι,cs,M,n,R,hc,hf,hM=>⟨ι,Named.refl R hf,hc,rfl,rfl⟩
 | .sub m c i len,s,ι,cs,M,n,R,hc,hf,hM=>⟨ι,Named.refl R hf,hc,rfl,rfl⟩
 | .bsl m p c M' i len,s,ι,cs,M,n,R,hc,hf,hM=>⟨ι,Named.refl R hf,hc,rfl,rfl⟩
 | .ptr m p,s,ι,cs,M,n,R,hc,hf,hM=>⟨ι,Named.refl R hf,hc,rfl,rfl⟩
 | .yld m,s,ι,cs,M,n,R,hc,hf,hM=>⟨ι,Named.refl R hf,hc,rfl,rfl⟩
 | .tr c9 x9 p9,s,ι,cs,M,n,R,hc,hf,hM=>⟨ι,Named.refl R hf,hc,rfl,rfl⟩
 | .iv x9,s,ι,cs,M,n,R,hc,hf,hM=>⟨ι,Named.refl R hf,hc,rfl,rfl⟩
 | .gh g9,s,ι,cs,M,n,R,hc,hf,hM=>⟨ι,Named.refl R hf,hc,rfl,rfl⟩
 | .int k m,s,ι,cs,M,n,R,hc,hf,hM=>⟨ι,Named.refl R hf,hc,rfl,rfl⟩
 | .bool k,s,ι,cs,M,n,R,hc,hf,hM=>⟨ι,Named.refl R hf,hc,rfl,rfl⟩
 | .str k,s,ι,cs,M,n,R,hc,hf,hM=>⟨ι,Named.refl R hf,hc,rfl,rfl⟩
 | .nilp,s,ι,cs,M,n,R,hc,hf,hM=>⟨ι,Named.refl R hf,hc,rfl,rfl⟩
 | .nilf,s,ι,cs,M,n,R,hc,hf,hM=>⟨ι,Named.refl R hf,hc,rfl,rfl⟩
 | .arr c k xs,s,ι,cs,M,n,R,hc,hf,hM=>⟨ι,Named.refl R hf,hc,rfl,rfl⟩
 | .ro g c xs,s,ι,cs,M,n,R,hc,hf,hM=>⟨ι,Named.refl R hf,hc,rfl,rfl⟩
 | .clip g c xs,s,ι,cs,M,n,R,hc,hf,hM=>⟨ι,Named.refl R hf,hc,rfl,rfl⟩
 | .rp g c xs i p,s,ι,cs,M,n,R,hc,hf,hM=>⟨ι,Named.refl R hf,hc,rfl,rfl⟩
theorem denils_ok:∀ (q:List (A U)) {s:S U} {ι:Nat->Option Value} {cs:List Value} {M n:Nat},Rel E s N tm w ι St->RC E w St ι q cs []->(∀ m,n<=m->m<M->ι m=none/\isLive (s.h m)=false)->(denils q n).2.2<=M →
  ∃ ι',Named E s N tm w ι St (denils q n).2.1 M n (denils q n).2.2 [] ι'/\RC E w St ι' (denils q n).1 cs []/\(denils q n).1.map (fun a=>(size E.sz a,isAgg a))=q.map (fun a=>(size E.sz a,isAgg a))
 | [],s,ι,cs,M,n,R,hc,hf,hM=>by cases hc;exact⟨ι,Named.refl R hf,.nil,rfl⟩
 | q::l,s,ι,cs,M,n,R,hc,hf,hM=>by
  obtain⟨c1,c2,b1,b2,rfl,hb,h1,h2⟩:=RC.cons_inv hc
  obtain⟨rfl,rfl⟩:=nil_or hb
  simp only[denils] at hM ⊢
  obtain⟨ι1,n1,r1,a1,z1⟩:=denil_ok q R h1 hf (Nat.le_trans (denils_le l _) hM)
  obtain⟨ι2,n2,r2,m2⟩:=denils_ok l n1.rel (h2.ext (ext_names n1.nm)) n1.free hM
  exact⟨ι2,n1.trans n2,by simpa using RC.cons (r1.ext (ext_names n2.nm)) r2,by simp only[List.map_cons,a1,z1,m2]⟩
end
def Holds(E:Env U)(w:World)(St:Ck U->Nat->Prop)(ι:Nat->Option Value):List (A U)->List Value->Prop
 | [],[]=>True
 | a::l,v::vs=>RT E w St ι a v/\Holds E w St ι l vs
 | _,_=>False
theorem Holds.ext{w':World}{St':Ck U->Nat->Prop}{ι ι':Nat->Option Value}(x:Ext w St ι w' St' ι'):∀ {l:List (A U)} {vs:List Value},Holds E w St ι l vs->Holds E w' St' ι' l vs
 | [],[],_=>trivial
 | _::_,_::_,h=>⟨h.1.ext x,Holds.ext x h.2⟩
def noTup:A U->Bool
 | .tup _=>false
 | _=>true
theorem RT.rc{ι:Nat->Option Value}{a:A U}{v:Value}(h:RT E w St ι a v)(hn:a≠.none)(ht:noTup a=true):RC E w St ι [a] v.cells.toList []/\isAggV v=isAgg a:=by
 cases a<;>first|exact absurd rfl hn|exact h|(simp[noTup] at ht;done)
theorem RT.of_rc{ι:Nat->Option Value}{a:A U}{v:Value}(h:RC E w St ι [a] v.cells.toList []/\isAggV v=isAgg a):RT E w St ι a v:=RT.of_rv h
theorem denilsT_ok:∀ (q:List (A U)) {s:S U} {ι:Nat->Option Value} {vs:List Value} {M n:Nat},Rel E s N tm w ι St->Holds E w St ι q vs->(∀ a∈q,noTup a=true)->(∀ m,n<=m->m<M->ι m=none/\isLive (s.h m)=false)->(denils q n).2.2<=M →
  ∃ ι',Named E s N tm w ι St (denils q n).2.1 M n (denils q n).2.2 [] ι'/\Holds E w St ι' (denils q n).1 vs
 | [],s,ι,vs,M,n,R,hc,ht,hf,hM=>by cases vs with|nil=>exact⟨ι,Named.refl R hf,trivial⟩|cons _ _=>exact hc.elim
 | q::l,s,ι,vs,M,n,R,hc,ht,hf,hM=>by
  cases vs with
  | nil=>exact hc.elim
  | cons v vs=>
   simp only[denils] at hM ⊢
   have one:∃ ι1,Named E s N tm w ι St (denil q n).2.1 M n (denil q n).2.2 [] ι1/\RT E w St ι1 (denil q n).1 v:=by
    by_cases hq:q=.none
    ·subst hq;exact⟨ι,Named.refl R hf,trivial⟩
    ·obtain⟨h1,h2⟩:=RT.rc hc.1 hq (ht q (by simp))
     obtain⟨ι1,n1,r1,a1,z1⟩:=denil_ok q R h1 hf (Nat.le_trans (denils_le l _) hM)
     exact⟨ι1,n1,RT.of_rc ⟨r1,h2.trans a1.symm⟩⟩
   obtain⟨ι1,n1,r1⟩:=one
   obtain⟨ι2,n2,r2⟩:=denilsT_ok l n1.rel (hc.2.ext (ext_names n1.nm)) (fun a ha=>ht a (by simp[ha])) n1.free hM
   exact⟨ι2,n1.trans n2,r1.ext (ext_names n2.nm),r2⟩
theorem denilB_le(h:Nat->AObj U):∀ (L:List Nat) (n:Nat),n<=(denilB h L n).2
 | [],n=>Nat.le_refl _
 | m::l,n=>by
  simp only[denilB]
  cases hm:h m with
  | box q=>simp only[];exact Nat.le_trans (denil_le q n) (denilB_le h l _)
  | _=>exact denilB_le h l n
mutual
theorem denil_names:∀ (q:A U) (n:Nat),∀ x∈(denil q n).2.1,n<=x.1/\x.1<(denil q n).2.2
 | .nils c,n,x,hx=>by simp only[denil,List.mem_cons,List.not_mem_nil,or_false] at hx ⊢;subst hx;simp
 | .agg l,n,x,hx=>by simp only[denil] at hx ⊢;exact denils_names l n x hx
 | .usl c xs,n,x,hx=>by simp[denil] at hx
 | .tup l,n,x,hx=>by simp[denil] at hx
 | .clo f l,n,x,hx=>by simp[denil] at hx
 | .none,n,x,hx=>by simp[denil] at hx
 | .own m,n,x,hx=>by simp[denil] at hx
 | .sub m c i len,n,x,hx=>by simp[denil] at hx
 | .bsl m p c M i len,n,x,hx=>by simp[denil] at hx
 | .ptr m p,n,x,hx=>by simp[denil] at hx
 | .yld m,n,x,hx=>by simp[denil] at hx
 | .tr c9 x9 p9,n,x,hx=>by simp[denil] at hx
 | .iv x9,n,x,hx=>by simp[denil] at hx
 | .gh g9,n,x,hx=>by simp[denil] at hx
 | .int k m,n,x,hx=>by simp[denil] at hx
 | .bool k,n,x,hx=>by simp[denil] at hx
 | .str k,n,x,hx=>by simp[denil] at hx
 | .nilp,n,x,hx=>by simp[denil] at hx
 | .nilf,n,x,hx=>by simp[denil] at hx
 | .arr c k xs,n,x,hx=>by simp[denil] at hx
 | .ro g c xs,n,x,hx=>by simp[denil] at hx
 | .clip g c xs,n,x,hx=>by simp[denil] at hx
 | .rp g c xs i p,n,x,hx=>by simp[denil] at hx
theorem denils_names:∀ (q:List (A U)) (n:Nat),∀ x∈(denils q n).2.1,n<=x.1/\x.1<(denils q n).2.2
 | [],n,x,hx=>by simp[denils] at hx
 | q::l,n,x,hx=>by
  simp only[denils,List.mem_append] at hx ⊢
  rcases hx with hx|hx
  ·have h1:=denil_names q n x hx
   have h2:=denils_le l (denil q n).2.2
   exact⟨h1.1,Nat.lt_of_lt_of_le h1.2 h2⟩
  ·have h1:=denils_names l _ x hx
   have h2:=denil_le q n
   exact⟨Nat.le_trans h2 h1.1,h1.2⟩
end
theorem denilB_ok{h:Nat->AObj U}:∀ (L:List Nat) {s:S U} {ι:Nat->Option Value} {M n:Nat},L.Nodup->Rel E s N tm w ι St->(∀ m∈L,∀ q,h m=.box q->s.h m=.box q) →
  (∀ m,n<=m->m<M->ι m=none/\isLive (s.h m)=false)->(denilB h L n).2<=M →
  ∃ ι',Rel E { s with h:=upds s.h (denilB h L n).1 } N tm w ι' St/\(∀ m v,ι m=some v->ι' m=some v)/\(∀ B,Own { s with h:=upds s.h (denilB h L n).1 } ι' B->Own s ι B)/\(∀ m,ι' m≠none->ι m≠none\/(n<=m/\m<(denilB h L n).2))
 | [],s,ι,M,n,hn,R,hb,hf,hM=>⟨ι,R,fun _ _ h=>h,fun _ h=>h,fun _ h=>.inl h⟩
 | m::l,s,ι,M,n,hn,R,hb,hf,hM=>by
  simp only[denilB] at hM ⊢
  obtain⟨hml,hnl⟩:=List.nodup_cons.1 hn
  cases hm:h m with
  | box q=>
   rw[hm] at hM
   simp only[] at hM ⊢
   have hsm:=hb m (by simp) q hm
   have h0:=R.obj m
   rw[hsm] at h0
   obtain⟨B,cs,e1,e2,e3,e4,e5⟩:=h0
   obtain⟨ι1,n1,r1,a1,z1⟩:=denil_ok q R e2 hf (Nat.le_trans (denilB_le h l _) hM)
   have em:ι1 m=some (.pointer (some ⟨B,0,.none⟩)):=n1.nm m _ e1
   have known:∀ k,ι k≠none->k∉(denil q n).2.1.map (·.1):=fun k hk hmem=>by
    obtain⟨x,hx,rfl⟩:=List.mem_map.1 hmem
    have:=denil_names q n x hx
    exact hk (hf x.1 this.1 (Nat.lt_of_lt_of_le this.2 (Nat.le_trans (denilB_le h l _) hM))).1
   have hs1:upds s.h (denil q n).2.1 m=.box q:=by rw[upds_notin (known m (by rw[e1];simp))];exact hsm
   have live1:isLive (upds s.h (denil q n).2.1 m)=true:=by rw[hs1];rfl
   have R2:=(n1.rel.kill m).adopt m (.box (denil q n).1) _ (by show isLive (upd _ m .dead m)=false;rw[upd_same];rfl) (.inr em)
    (by
     have e:upd ι1 m (some (.pointer (some ⟨B,0,.none⟩)))=ι1:=by rw[<-em];exact upd_self _ _
     rw[e]
     exact⟨B,cs,rfl,r1,e3,e4,e5⟩)
    (fun B' _ hB'=>by
     simp only[blk,base,Option.map_some,Option.some.injEq] at hB'
     subst hB'
     have hbm:blkO (ι1 m)=some B:=by rw[em];rfl
     refine⟨n1.rel.apt m B live1 hbm,fun k hk hk2=>?_⟩
     by_cases e:k=m
     ·subst e
      change isLive (upd _ k .dead k)=true at hk
      rw[upd_same] at hk;simp[isLive] at hk
     ·change isLive (upd _ m .dead k)=true at hk
      rw[upd_ne _ _ e] at hk
      exact e (n1.rel.dis k m B hk live1 hk2 hbm))
   have e2':upd ι1 m (some (.pointer (some ⟨B,0,.none⟩)))=ι1:=by rw[<-em];exact upd_self _ _
   rw[e2'] at R2
   have R3:Rel E { s with h:=upd (upds s.h (denil q n).2.1) m (.box (denil q n).1) } N tm w ι1 St:=by
    have:=R2
    simp only[upd_upd] at this
    exact this
   obtain⟨ι2,R4,nm2,ow2,nw2⟩:=denilB_ok l (s:={ s with h:=upd (upds s.h (denil q n).2.1) m (.box (denil q n).1) }) (h:=h) hnl R3 (fun k hk q' hq'=>by
     have hk0:=hb k (by simp[hk]) q' hq'
     have hkm:k≠m:=fun e=>hml (e▸hk)
     show upd _ m _ k=_
     rw[upd_ne _ _ hkm,upds_notin (known k fun hn=>by have:=R.dead hn;rw[hk0] at this;simp[isLive] at this)]
     exact hk0)
    (fun k h1 h2=>by
     obtain⟨f1,f2⟩:=n1.free k h1 h2
     exact⟨f1,R3.dead f1⟩) hM
   refine⟨ι2,?_,fun k v h=>nm2 k v (n1.nm k v h),fun B' h=>?_,fun k hk=>?_⟩
   rotate_left 2
   ·rcases nw2 k hk with h|h
    ·rcases n1.new k h with h|h
     ·exact .inl h
     ·exact .inr ⟨h.1,Nat.lt_of_lt_of_le h.2 (denilB_le _ l _)⟩
    ·exact .inr ⟨Nat.le_trans n1.le h.1,h.2⟩
   ·rw[upds_append];exact R4
   ·rw[upds_append] at h
    obtain⟨k,h1,h2⟩:=ow2 B' h
    have:Own { s with h:=upds s.h (denil q n).2.1 } ι1 B':=by
     refine⟨k,?_,h2⟩
     by_cases e:k=m
     ·rw[e];exact live1
     ·change isLive (upd _ m _ k)=true at h1
      rw[upd_ne _ _ e] at h1
      exact h1
    rcases n1.own B' this with h|h
    ·exact h
    ·cases h
  | dead=>rw[hm] at hM;exact denilB_ok l hnl R (fun k hk=>hb k (by simp[hk])) hf hM
  | lp lf lid live vals j=>rw[hm] at hM;exact denilB_ok l hnl R (fun k hk=>hb k (by simp[hk])) hf hM
  | lst c x=>rw[hm] at hM;exact denilB_ok l hnl R (fun k hk=>hb k (by simp[hk])) hf hM
  | fz c x=>rw[hm] at hM;exact denilB_ok l hnl R (fun k hk=>hb k (by simp[hk])) hf hM
theorem idxN_lt{n:Nat}:∀ {L:List Nat},n∈L->L[idxN n L]?=some n
 | [],h=>by cases h
 | m::l,h=>by
  simp only[idxN]
  cases hb:Nat.beq m n with
  | true=>simp only[cond_true,List.getElem?_cons_zero];rw[Nat.eq_of_beq_eq_true hb]
  | false=>
   simp only[cond_false,List.getElem?_cons_succ]
   rcases List.mem_cons.1 h with rfl|h
   ·rw[Nat.beq_refl] at hb;simp at hb
   ·exact idxN_lt h
def reι(L:List Nat)(ι:Nat->Option Value)(k:Nat):Option Value:=match L[k]? with|some n=>ι n|.none=>.none
theorem reι_idx{L:List Nat}{ι:Nat->Option Value}{n:Nat}(h:n∈L):reι L ι (idxN n L)=ι n:=by unfold reι;rw[idxN_lt h]
theorem renAs_map(L:List Nat)(l:List (A U)):renAs L l=l.map (renA L):=by
 induction l with
 | nil=>rfl
 | cons a l ih=>simp[renAs,ih]
mutual
theorem ren_size(L:List Nat):∀ q:A U,size E.sz (renA L q)=size E.sz q/\isAgg (renA L q)=isAgg q
 | .agg l=>⟨by simp only[renA,size];exact rens_size L l,rfl⟩
 | .tup l=>⟨rfl,rfl⟩
 | .clo f l=>⟨rfl,rfl⟩
 | .usl c xs=>⟨rfl,rfl⟩
 | .none=>⟨rfl,rfl⟩
 | .own m=>⟨rfl,rfl⟩
 | .sub m c i len=>⟨rfl,rfl⟩
 | .bsl m p c M i len=>⟨rfl,rfl⟩
 | .ptr m p=>⟨rfl,rfl⟩
 | .yld m=>⟨rfl,rfl⟩
 | .tr c9 x9 p9=>⟨rfl,rfl⟩
 | .iv x9=>⟨rfl,rfl⟩
 | .gh g9=>⟨rfl,rfl⟩
 | .int k m=>⟨rfl,rfl⟩
 | .bool k=>⟨rfl,rfl⟩
 | .str k=>⟨rfl,rfl⟩
 | .nilp=>⟨rfl,rfl⟩
 | .nilf=>⟨rfl,rfl⟩
 | .nils c=>⟨rfl,rfl⟩
 | .arr c k xs=>⟨rfl,rfl⟩
 | .ro g c xs=>⟨rfl,rfl⟩
 | .clip g c xs=>⟨rfl,rfl⟩
 | .rp g c xs i p=>⟨rfl,rfl⟩
theorem rens_size(L:List Nat):∀ q:List (A U),sizes E.sz (renAs L q)=sizes E.sz q
 | []=>rfl
 | q::l=>by simp only[renAs,sizes,(ren_size L q).1,rens_size L l]
end
theorem RC.ren(ok:EnvOk E){ι:Nat->Option Value}(L:List Nat){l:List (A U)}{cs:List Value}{bs:List Nat}(h:RC E w St ι l cs bs):(∀ n∈namess l,n∈L)->RC E w St (reι L ι) (renAs L l) cs bs:=by
 induction h with
 | nil=>intro _;exact .nil
 | int _ ih=>intro hn;exact .int (ih (by simpa[namess,names] using hn))
 | bool _ ih=>intro hn;exact .bool (ih (by simpa[namess,names] using hn))
 | str _ ih=>intro hn;exact .str (ih (by simpa[namess,names] using hn))
 | nilp _ ih=>intro hn;exact .nilp (ih (by simpa[namess,names] using hn))
 | nilf _ ih=>intro hn;exact .nilf (ih (by simpa[namess,names] using hn))
 | nils _ ih=>intro hn;exact .nils (ih (by simpa[namess,names] using hn))
 | tr h1 _ ih=>intro hn;exact .tr h1 (ih (by simpa[namess,names] using hn))
 | iv h1 _ ih=>intro hn;exact .iv h1 (ih (by simpa[namess,names] using hn))
 | gh _ ih=>intro hn;exact .gh (ih (by simpa[namess,names] using hn))
 | agg _ _ ih1 ih2=>intro hn;simp only[namess,names,List.mem_append] at hn;exact .agg (ih1 fun n h=>hn n (.inl h)) (ih2 fun n h=>hn n (.inr h))
 | arr h0 h1 _ _ ih2=>intro hn;exact .arr h0 (h1.encs ok fun _ h=>h) (ih2 (by simpa[namess,names] using hn))
 | roE _ ih=>intro hn;exact .roE (ih (by simpa[namess,names] using hn))
 | ro h1 h2 h3 h4 _ _ ih=>intro hn;exact .ro (h1.encs ok fun _ h=>h) h2 h3 h4 (ih (by simpa[namess,names] using hn))
 | clipE _ ih=>intro hn;exact .clipE (ih (by simpa[namess,names] using hn))
 | clip h1 h2 h3 _ _ ih=>intro hn;exact .clip (h1.encs ok fun _ h=>h) h2 h3 (ih (by simpa[namess,names] using hn))
 | uslE _ ih=>intro hn;exact .uslE (ih (by simpa[namess,names] using hn))
 | usl h1 h2 h3 h4 h5 _ _ ih=>intro hn;exact .usl (h1.encs ok fun _ h=>h) h2 h3 h4 h5 (ih (by simpa[namess,names] using hn))
 | own h1 _ ih=>
  intro hn
  simp only[namess,names,List.cons_append,List.nil_append,List.mem_cons,forall_eq_or_imp] at hn
  exact .own (by rw[reι_idx hn.1];exact h1) (ih hn.2)
 | sub h1 h2 h3 h4 h5 _ ih=>
  intro hn
  simp only[namess,names,List.cons_append,List.nil_append,List.mem_cons,forall_eq_or_imp] at hn
  exact .sub (by rw[reι_idx hn.1];exact h1) h2 h3 h4 h5 (ih hn.2)
 | bsl h1 h2 h3 h4 h5 h6 _ ih=>
  intro hn
  simp only[namess,names,List.cons_append,List.nil_append,List.mem_cons,forall_eq_or_imp] at hn
  exact .bsl (by rw[reι_idx hn.1];exact h1) h2 h3 h4 h5 h6 (ih hn.2)
 | ptr h1 h2 h3 _ ih=>
  intro hn
  simp only[namess,names,List.cons_append,List.nil_append,List.mem_cons,forall_eq_or_imp] at hn
  exact .ptr (by rw[reι_idx hn.1];exact h1) h2 h3 (ih hn.2)
 | yld h1 _ ih=>
  intro hn
  simp only[namess,names,List.cons_append,List.nil_append,List.mem_cons,forall_eq_or_imp] at hn
  exact .yld (by rw[reι_idx hn.1];exact h1) (ih hn.2)
 | rp h1 h2 h3 h4 h5 _ _ ih=>intro hn;exact .rp (h1.encs ok fun _ h=>h) h2 h3 h4 h5 (ih (by simpa[namess,names] using hn))
 | clo h1 h2 _ ih1 ih2=>
  intro hn
  simp only[namess,names,List.mem_append] at hn
  refine .clo (ih1 fun n h=>hn n (.inl h)) (h2.trans ?_) (ih2 fun n h=>hn n (.inr h))
  rw[renAs_map,List.map_map]
  exact List.map_congr_left fun a _=>by simp only[Function.comp,(ren_size (E:=E) L a).1,(ren_size (E:=E) L a).2]
theorem renAs_one(L:List Nat)(a:A U):renAs L [a]=[renA L a]:=rfl
theorem Holds.ren(ok:EnvOk E){ι:Nat->Option Value}(L:List Nat):∀ {l:List (A U)} {vs:List Value},Holds E w St ι l vs->(∀ a∈l,noTup a=true)->(∀ n∈namess l,n∈L)->Holds E w St (reι L ι) (renAs L l) vs
 | [],[],_,_,_=>trivial
 | [],_::_,h,_,_=>h.elim
 | _::_,[],h,_,_=>h.elim
 | a::l,v::vs,h,ht,hn=>by
  simp only[namess,List.mem_append] at hn
  refine⟨?_,Holds.ren ok L h.2 (fun x hx=>ht x (by simp[hx])) (fun n hn'=>hn n (.inr hn'))⟩
  by_cases hq:a=.none
  ·subst hq;exact trivial
  ·obtain⟨h1,h2⟩:=RT.rc h.1 hq (ht a (by simp))
   have:=h1.ren ok L (by simpa[namess] using fun n hn'=>hn n (.inl hn'))
   rw[renAs_one] at this
   exact RT.of_rc ⟨this,h2.trans (ren_size (E:=E) L a).2.symm⟩
theorem Holds.pairUp{ι:Nat->Option Value}:∀ {live:List Nat} {vals:List (A U)},Holds E w St ι vals (live.map fun d=>tm.getD d undef)->∀ d,RT E w St ι (pairUp live vals d) (tm.getD d undef)
 | [],[],_,d=>trivial
 | [],_::_,h,d=>h.elim
 | _::_,[],h,d=>h.elim
 | e::live,v::vals,h,d=>by
  simp only[V.pairUp]
  cases hb:Nat.beq d e with
  | true=>rw[Nat.eq_of_beq_eq_true hb];exact h.1
  | false=>exact Holds.pairUp h.2 d
theorem noTup_untup(a:A U):noTup (untup a)=true:=by cases a<;>rfl
theorem denil_noTup(a:A U)(n:Nat)(h:noTup a=true):noTup (denil a n).1=true:=by
 cases a<;>first|rfl|simp[noTup] at h
theorem denils_noTup:∀ (l:List (A U)) (n:Nat),(∀ a∈l,noTup a=true)->∀ a∈(denils l n).1,noTup a=true
 | [],n,h,a,ha=>by simp[denils] at ha
 | q::l,n,h,a,ha=>by
  simp only[denils,List.mem_cons] at ha
  rcases ha with rfl|ha
  ·exact denil_noTup q n (h q (by simp))
  ·exact denils_noTup l _ (fun x hx=>h x (by simp[hx])) a ha
theorem distinctN_iff:∀ {l:List Nat},distinctN l=true↔l.Nodup
 | []=>by simp[distinctN]
 | n::l=>by simp only[distinctN,Bool.and_eq_true,Bool.not_eq_true',memN_false,distinctN_iff (l:=l),List.nodup_cons]
theorem inN_iff{L:List Nat}:∀ {l:List Nat},inN L l=true↔∀ n∈l,n∈L
 | []=>by simp[inN]
 | n::l=>by simp only[inN,Bool.and_eq_true,memN_iff,inN_iff (l:=l),List.mem_cons,forall_eq_or_imp]
theorem closedN_iff{h:Nat->AObj U}{L:List Nat}:∀ {l:List Nat},closedN h L l=true↔∀ n∈l,∀ m∈names (objA (h n)),m∈L
 | []=>by simp[closedN]
 | n::l=>by simp only[closedN,Bool.and_eq_true,inN_iff,closedN_iff (l:=l),List.mem_cons,forall_eq_or_imp]
theorem nthO_map{f:Nat->AObj U}:∀ (L:List Nat) (k:Nat),nthO (L.map f) k=match L[k]? with|some n=>f n|.none=>.dead
 | [],k=>by simp[nthO]
 | m::l,0=>by simp[nthO]
 | m::l,k+1=>by simp only[List.map_cons,nthO,nthO_map l k,List.getElem?_cons_succ]
theorem RVs.holds'{ι:Nat->Option Value}:∀ {l:List (A U)} {vs:List Value},RVs E w St ι l vs->Holds E w St ι l vs
 | [],[],_=>trivial
 | [],_::_,h=>h.elim
 | _::_,[],h=>h.elim
 | a::l,v::vs,h=>⟨h.1.elim (fun e=>by rw[e];exact trivial) RT.of_rv,RVs.holds' h.2⟩
theorem RVs.noTup{ι:Nat->Option Value}:∀ {l:List (A U)} {vs:List Value},RVs E w St ι l vs->∀ a∈l,noTup a=true
 | [],_,_,a,ha=>by cases ha
 | _::_,[],h,a,ha=>h.elim
 | q::l,v::vs,h,a,ha=>by
  rcases List.mem_cons.1 ha with rfl|ha
  ·rcases h.1 with rfl|h
   ·rfl
   ·cases a<;>first|rfl|exact absurd h.1 (by intro h;cases h)
  ·exact RVs.noTup h.2 a ha
theorem Holds.rvs'{ι:Nat->Option Value}:∀ {l:List (A U)} {vs:List Value},Holds E w St ι l vs->(∀ a∈l,V.noTup a=true)->RVs E w St ι l vs
 | [],[],_,_=>trivial
 | [],_::_,h,_=>h.elim
 | _::_,[],h,_=>h.elim
 | a::l,v::vs,h,hk=>by
  refine⟨?_,Holds.rvs' h.2 fun x hx=>hk x (by simp[hx])⟩
  have ht:=hk a (by simp)
  cases a with
  | none=>exact .inl rfl
  | tup l=>simp[V.noTup] at ht
  | _=>exact .inr h.1
theorem RVs.ren(ok:EnvOk E){ι:Nat->Option Value}(L:List Nat){l:List (A U)}{vs:List Value}(h:RVs E w St ι l vs)(hn:∀ n∈namess l,n∈L):RVs E w St (reι L ι) (renAs L l) vs:=by
 refine (h.holds'.ren ok L h.noTup hn).rvs' fun a ha=>?_
 rw[renAs_map] at ha
 obtain⟨b,hb,rfl⟩:=List.mem_map.1 ha
 have:=h.noTup b hb
 cases b<;>first|rfl|(simp[V.noTup] at this;done)
theorem RO.ren(ok:EnvOk E){ι:Nat->Option Value}(L:List Nat){o:AObj U}{x:Option Value}(h:RO E w St ι o x)(hn:∀ m∈names (objA o),m∈L):RO E w St (reι L ι) (renO L o) x:=by
 cases o with
 | dead=>exact trivial
 | lp lf lid live vals j=>
  obtain⟨r,L',h1,h2,h3,h4,h5⟩:=h
  exact⟨r,L',h1,h2,h3,h4.ren ok L (by simpa[names,objA] using hn),h5⟩
 | box a=>
  obtain⟨B,cs,e1,e2,e3,e4,e5⟩:=h
  have:=e2.ren ok L (by simpa[namess,objA] using hn)
  exact⟨B,cs,e1,this,e3,e4,e5⟩
 | lst c xs=>
  rcases h with h|⟨B,off,cap,ds,h1,h2,h3⟩
  ·exact .inl h
  ·exact .inr ⟨B,off,cap,ds,h1,h2.encs ok fun _ h=>h,h3⟩
 | fz c xs=>
  obtain⟨v,h1,h2⟩:=h
  exact⟨v,h1,h2.ren ok L (by simp[namess,names])⟩
theorem live_ren(L:List Nat)(o:AObj U):isLive (renO L o)=isLive o:=by cases o<;>rfl
theorem nodup_inj{α:Type}:∀ {l:List α} {i j:Nat} {x:α},l.Nodup->l[i]?=some x->l[j]?=some x->i=j
 | [],i,j,x,_,h,_=>by simp at h
 | y::l,0,0,x,_,_,_=>rfl
 | y::l,0,j+1,x,hn,h1,h2=>by
  simp only[List.getElem?_cons_zero,Option.some.injEq,List.getElem?_cons_succ] at h1 h2
  subst h1
  exact absurd (List.mem_of_getElem? h2) (List.nodup_cons.1 hn).1
 | y::l,i+1,0,x,hn,h1,h2=>by
  simp only[List.getElem?_cons_zero,Option.some.injEq,List.getElem?_cons_succ] at h1 h2
  subst h2
  exact absurd (List.mem_of_getElem? h1) (List.nodup_cons.1 hn).1
 | y::l,i+1,j+1,x,hn,h1,h2=>by
  simp only[List.getElem?_cons_succ] at h1 h2
  rw[nodup_inj (List.nodup_cons.1 hn).2 h1 h2]
structure HeapR (E:Env U) (h:Nat->AObj U) (w:World) (ι:Nat->Option Value) (St:Ck U->Nat->Prop):Prop where
 obj:∀ n,RO E w St ι (h n) (ι n)
 dis:∀ n m B,isLive (h n)=true->isLive (h m)=true->blkO (ι n)=some B->blkO (ι m)=some B->n=m
 stb:∀ B,An St B->B<w.heap.size
 apt:∀ n B,isLive (h n)=true->blkO (ι n)=some B->¬An St B
 sup:Sup E w St
def OwnH(h:Nat->AObj U)(ι:Nat->Option Value)(B:Nat):Prop:=∃ n,isLive (h n)=true/\blkO (ι n)=some B
structure LaidOk (E:Env U) (s:S U) (N:Nat) (tm:Array Value) (w:World) (ι:Nat->Option Value) (St:Ck U->Nat->Prop) (n0:Nat) (us:List Value) (x:Laid U) (ι2:Nat->Option Value):Prop where
 rel:Rel E { s with h:=upds s.h x.wr } N tm w ι2 St
 nm:∀ m v,ι m=some v->ι2 m=some v
 new:∀ m,ι2 m≠none->ι m≠none\/(n0<=m/\m<x.n)
 own:∀ B,Own { s with h:=upds s.h x.wr } ι2 B->Own s ι B
 vals:Holds E w St (reι x.L ι2) x.vals us
 heap:HeapR E (nthO x.objs) w (reι x.L ι2) St
 out:∀ k,x.L.length<=k->reι x.L ι2 k=none
 len:x.objs.length=x.L.length
 nod:x.L.Nodup
 le:n0<=x.n
 at_:∀ k n,x.L[k]?=some n->nthO x.objs k=renO x.L (upds s.h x.wr n)
 sub:∀ B,OwnH (nthO x.objs) (reι x.L ι2) B->Own { s with h:=upds s.h x.wr } ι2 B
theorem layG_le{h:Nat->AObj U}{n0:Nat}{first:List Nat}{vs:List (A U)}{x:Laid U}(hx:layG h n0 first vs=some x):n0<=x.n:=by
 unfold layG at hx
 simp only[] at hx
 revert hx
 simp only[Bool.cond_eq_ite]
 split
 ·intro hx;cases hx;exact Nat.le_trans (denils_le _ _) (denilB_le _ _ _)
 ·intro hx;cases hx
theorem layG_ok(ok:EnvOk2 E){s:S U}{ι:Nat->Option Value}(R:Rel E s N tm w ι St){n0:Nat}{first:List Nat}{vs:List (A U)}{x:Laid U}(hl:layG s.h n0 first vs=some x){us:List Value}(hH:Holds E w St ι vs us)
  (ht:∀ a∈vs,noTup a=true) (hf:∀ m,n0<=m->m<x.n->ι m=none):∃ ι2,LaidOk E s N tm w ι St n0 us x ι2:=by
 have hle:=layG_le hl
 unfold layG at hl
 simp only[] at hl
 generalize hr:denils vs n0=r at hl
 generalize hL1:reach names (upds s.h r.2.1) 60 0 (addNs first (namess r.1))=L1 at hl
 generalize hq:denilB (upds s.h r.2.1) L1 r.2.2=q at hl
 generalize hL:reach names (upds (upds s.h r.2.1) q.1) 60 0 (addNs first (namess r.1))=L at hl
 cases hb:(distinctN L1&&(distinctN L&&(inN L (namess r.1)&&closedN (upds (upds s.h r.2.1) q.1) L L))) with
 | false=>rw[hb] at hl;simp at hl
 | true=>
  rw[hb] at hl
  simp only[cond_true,Option.some.injEq] at hl
  subst hl
  simp only[Bool.and_eq_true,distinctN_iff,inN_iff,closedN_iff] at hb
  obtain⟨d1,d2,d3,d4⟩:=hb
  simp only[] at hf hle
  have free:∀ m,n0<=m->m<q.2->ι m=none/\isLive (s.h m)=false:=fun m h h2=>⟨hf m h h2,R.dead (hf m h h2)⟩
  have hqle:r.2.2<=q.2:=by rw[<-hq];exact denilB_le _ _ _
  obtain⟨ι1,n1,h1⟩:=denilsT_ok vs (M:=q.2) R hH ht free (by rw[hr];exact hqle)
  rw[hr] at n1 h1
  obtain⟨ι2,R2,nm2,ow2,nw2⟩:=denilB_ok (h:=upds s.h r.2.1) L1 (s:={ s with h:=upds s.h r.2.1 }) (M:=q.2) d1 n1.rel (fun m _ q' h=>h) n1.free (by rw[hq];exact Nat.le_refl _)
  rw[hq] at R2 ow2 nw2
  have h2:=(h1.ext (ext_names nm2)).ren ok.toEnvOk L (by rw[<-hr];exact denils_noTup _ _ ht) d3
  have e2:upds s.h (r.2.1++q.1)=upds (upds s.h r.2.1) q.1:=upds_append _ _ _
  have sub:∀ B,OwnH (nthO (L.map fun n=>renO L (upds (upds s.h r.2.1) q.1 n))) (reι L ι2) B->Own { s with h:=upds s.h (r.2.1++q.1) } ι2 B:=by
   rintro B ⟨k,l1,b1⟩
   rw[nthO_map] at l1
   unfold reι at b1
   cases hk:L[k]? with
   | none=>rw[hk] at l1;simp[isLive] at l1
   | some n=>
    rw[hk] at l1 b1
    simp only[live_ren] at l1
    exact⟨n,by rw[e2];exact l1,b1⟩
  refine⟨ι2,by rw[e2];exact R2,fun m v h=>nm2 m v (n1.nm m v h),fun m h=>?_,fun B hB=>?_,h2,⟨fun k=>?_,fun k1 k2 B l1 l2 b1 b2=>?_,R2.stb,fun k B l1 b1=>?_,R2.sup⟩,fun k hk=>?_,by simp,d2,hle,fun k n hk=>?_,sub⟩
  ·rcases nw2 m h with h|h
   ·rcases n1.new m h with h|h
    ·exact .inl h
    ·exact .inr ⟨h.1,Nat.lt_of_lt_of_le h.2 hqle⟩
   ·exact .inr ⟨Nat.le_trans n1.le h.1,h.2⟩
  ·rw[e2] at hB
   rcases n1.own B (ow2 B hB) with h|h
   ·exact h
   ·cases h
  ·show RO E w St _ (nthO (L.map _) k) _
   rw[nthO_map]
   unfold reι
   cases hk:L[k]? with
   | none=>exact trivial
   | some n=>exact (R2.obj n).ren ok.toEnvOk L (d4 n (List.mem_of_getElem? hk))
  ·rw[nthO_map] at l1 l2
   unfold reι at b1 b2
   cases hk1:L[k1]? with
   | none=>rw[hk1] at l1;simp[isLive] at l1
   | some n1'=>
    cases hk2:L[k2]? with
    | none=>rw[hk2] at l2;simp[isLive] at l2
    | some n2'=>
     rw[hk1] at l1 b1
     rw[hk2] at l2 b2
     simp only[live_ren] at l1 l2
     have e:=R2.dis n1' n2' B l1 l2 b1 b2
     subst e
     exact nodup_inj d2 hk1 hk2
  ·rw[nthO_map] at l1
   unfold reι at b1
   cases hk:L[k]? with
   | none=>rw[hk] at l1;simp[isLive] at l1
   | some n=>rw[hk] at l1 b1;simp only[live_ren] at l1;exact R2.apt n B l1 b1
  ·unfold reι
   rw[List.getElem?_eq_none (by simpa using hk)]
  ·simp only[nthO_map,hk,e2]
theorem denilB_names{h:Nat->AObj U}:∀ (L:List Nat) (n:Nat),∀ x∈(denilB h L n).1,x.1∈L\/(n<=x.1/\x.1<(denilB h L n).2)
 | [],n,x,hx=>by simp[denilB] at hx
 | m::l,n,x,hx=>by
  simp only[denilB] at hx ⊢
  cases hm:h m with
  | box q=>
   rw[hm] at hx
   simp only[List.mem_append,List.mem_cons] at hx ⊢
   rcases hx with hx|hx|hx
   ·have:=denil_names q n x hx
    exact .inr ⟨this.1,Nat.lt_of_lt_of_le this.2 (denilB_le h l _)⟩
   ·subst hx;exact .inl (.inl rfl)
   ·rcases denilB_names l _ x hx with h|h
    ·exact .inl (.inr h)
    ·exact .inr ⟨Nat.le_trans (denil_le q n) h.1,h.2⟩
  | dead=>rw[hm] at hx;rcases denilB_names l n x hx with h|h;exact .inl (by simp[h]);exact .inr h
  | lp lf lid live vals j=>rw[hm] at hx;rcases denilB_names l n x hx with h|h;exact .inl (by simp[h]);exact .inr h
  | lst c y=>rw[hm] at hx;rcases denilB_names l n x hx with h|h;exact .inl (by simp[h]);exact .inr h
  | fz c y=>rw[hm] at hx;rcases denilB_names l n x hx with h|h;exact .inl (by simp[h]);exact .inr h
theorem layG_names{h:Nat->AObj U}{n0:Nat}{first:List Nat}{vs:List (A U)}{x:Laid U}(hx:layG h n0 first vs=some x):∀ y∈x.wr,y.1∈x.L1\/(n0<=y.1/\y.1<x.n):=by
 unfold layG at hx
 simp only[] at hx
 revert hx
 simp only[Bool.cond_eq_ite]
 split
 ·intro hx
  cases hx
  intro y hy
  simp only[List.mem_append] at hy
  rcases hy with hy|hy
  ·have:=denils_names vs n0 y hy
   exact .inr ⟨this.1,Nat.lt_of_lt_of_le this.2 (denilB_le _ _ _)⟩
  ·rcases denilB_names _ _ y hy with h|h
   ·exact .inl h
   ·exact .inr ⟨Nat.le_trans (denils_le _ _) h.1,h.2⟩
 ·intro hx;cases hx
theorem renA_noTup(L:List Nat)(q:A U)(h:noTup q=true):noTup (renA L q)=true:=by cases q<;>first|rfl|(simp[noTup] at h;done)
theorem layG_noTup{h:Nat->AObj U}{n0:Nat}{first:List Nat}{vs:List (A U)}{x:Laid U}(hx:layG h n0 first vs=some x)(ht:∀ a∈vs,noTup a=true):∀ a∈x.vals,noTup a=true:=by
 unfold layG at hx
 simp only[] at hx
 revert hx
 simp only[Bool.cond_eq_ite]
 split
 ·intro hx
  cases hx
  intro a ha
  simp only[renAs_map,List.mem_map] at ha
  obtain⟨q,hq,rfl⟩:=ha
  exact renA_noTup _ _ (denils_noTup vs n0 ht q hq)
 ·intro hx;cases hx
theorem addN_mem{l:List Nat}{n m:Nat}(h:m∈l):m∈addN l n:=by
 unfold addN
 cases memN n l<;>simp[h]
theorem addNs_mem{m:Nat}:∀ (r:List Nat) {l:List Nat},m∈l->m∈addNs l r
 | [],l,h=>h
 | n::r,l,h=>addNs_mem r (addN_mem h)
theorem reach_mem{nm:A U->List Nat}{h:Nat->AObj U}{m:Nat}:∀ (n j:Nat) {l:List Nat},m∈l->m∈reach nm h n j l
 | 0,j,l,hm=>hm
 | n+1,j,l,hm=>by
  simp only[reach]
  split
  ·exact hm
  ·exact reach_mem n (j+1) (addNs_mem _ hm)
theorem reach_congr{nm:A U->List Nat}{h h':Nat->AObj U}:∀ (n j:Nat) (l:List Nat),(∀ m∈reach nm h n j l,h' m=h m)->reach nm h' n j l=reach nm h n j l
 | 0,j,l,hm=>rfl
 | n+1,j,l,hm=>by
  simp only[reach] at hm ⊢
  split
  ·rfl
  ·rename_i m r hd
   rw[hd] at hm
   simp only[] at hm
   have hml:m∈l:=List.mem_of_mem_drop (by rw[hd];simp)
   have e:h' m=h m:=hm m (reach_mem _ _ (addNs_mem _ hml))
   rw[e]
   exact reach_congr n (j+1) _ hm
theorem denilB_congr{h h':Nat->AObj U}:∀ (L:List Nat) (n:Nat),(∀ m∈L,h' m=h m)->denilB h' L n=denilB h L n
 | [],n,_=>rfl
 | m::l,n,e=>by
  have ih:=fun n=>denilB_congr l n fun k hk=>e k (by simp[hk])
  simp only[denilB,e m (by simp),ih]
theorem upds_congr{α:Type}{m:Nat}:∀ (l:List (Nat×α)) {f g:Nat->α},f m=g m->upds f l m=upds g l m
 | [],f,g,h=>h
 | (n,x)::l,f,g,h=>by
  simp only[upds]
  refine upds_congr l ?_
  simp only[upd_eq]
  split
  ·rfl
  ·exact h
theorem layG_congr{h h':Nat->AObj U}{n0:Nat}{first:List Nat}{vs:List (A U)}{x:Laid U}(hx:layG h n0 first vs=some x)(e:∀ m∈x.L1++x.L,h' m=h m):layG h' n0 first vs=some x:=by
 unfold layG at hx ⊢
 simp only[] at hx ⊢
 generalize hr:denils vs n0=r at hx ⊢
 cases hb:(distinctN (reach names (upds h r.2.1) 60 0 (addNs first (namess r.1)))&&(distinctN (reach names (upds (upds h r.2.1) (denilB (upds h r.2.1) (reach names (upds h r.2.1) 60 0 (addNs first (namess r.1))) r.2.2).1) 60 0 (addNs first (namess r.1))) &&
   (inN (reach names (upds (upds h r.2.1) (denilB (upds h r.2.1) (reach names (upds h r.2.1) 60 0 (addNs first (namess r.1))) r.2.2).1) 60 0 (addNs first (namess r.1))) (namess r.1) &&
   closedN (upds (upds h r.2.1) (denilB (upds h r.2.1) (reach names (upds h r.2.1) 60 0 (addNs first (namess r.1))) r.2.2).1) (reach names (upds (upds h r.2.1) (denilB (upds h r.2.1) (reach names (upds h r.2.1) 60 0 (addNs first (namess r.1))) r.2.2).1) 60 0 (addNs first (namess r.1)))
    (reach names (upds (upds h r.2.1) (denilB (upds h r.2.1) (reach names (upds h r.2.1) 60 0 (addNs first (namess r.1))) r.2.2).1) 60 0 (addNs first (namess r.1)))))) with
 | false=>rw[hb] at hx;simp at hx
 | true=>
  have hx0:=hx
  rw[hb] at hx
  simp only[cond_true,Option.some.injEq] at hx
  subst hx
  simp only[List.mem_append] at e
  have a1:∀ m∈reach names (upds h r.2.1) 60 0 (addNs first (namess r.1)),upds h' r.2.1 m=upds h r.2.1 m:=fun m hm=>upds_congr _ (e m (.inl hm))
  have b1:=reach_congr 60 0 _ a1
  have c1:=denilB_congr _ r.2.2 a1
  rw[b1,c1]
  have a2:∀ m∈reach names (upds (upds h r.2.1) (denilB (upds h r.2.1) (reach names (upds h r.2.1) 60 0 (addNs first (namess r.1))) r.2.2).1) 60 0 (addNs first (namess r.1)),
    upds (upds h' r.2.1) (denilB (upds h r.2.1) (reach names (upds h r.2.1) 60 0 (addNs first (namess r.1))) r.2.2).1 m=upds (upds h r.2.1) (denilB (upds h r.2.1) (reach names (upds h r.2.1) 60 0 (addNs first (namess r.1))) r.2.2).1 m:=
   fun m hm=>upds_congr _ (upds_congr _ (e m (.inr hm)))
  have b2:=reach_congr 60 0 _ a2
  rw[b2]
  have c2:∀ (l L:List Nat),(∀ m∈l,m∈reach names (upds (upds h r.2.1) (denilB (upds h r.2.1) (reach names (upds h r.2.1) 60 0 (addNs first (namess r.1))) r.2.2).1) 60 0 (addNs first (namess r.1))) →
    closedN (upds (upds h' r.2.1) (denilB (upds h r.2.1) (reach names (upds h r.2.1) 60 0 (addNs first (namess r.1))) r.2.2).1) L l=closedN (upds (upds h r.2.1) (denilB (upds h r.2.1) (reach names (upds h r.2.1) 60 0 (addNs first (namess r.1))) r.2.2).1) L l:=by
   intro l L
   induction l with
   | nil=>intro _;rfl
   | cons m l ih=>intro hm;simp only[closedN];rw[a2 m (hm m (by simp)),ih fun k hk=>hm k (by simp[hk])]
  rw[c2 _ _ fun m hm=>hm,hb]
  simp only[cond_true,Option.some.injEq,Laid.mk.injEq,true_and,and_true]
  exact List.map_congr_left fun m hm=>by rw[a2 m hm]
end
end Go.V

set_option linter.unusedVariables false
set_option linter.unusedSimpArgs false
namespace Go.V
variable {U:Nat->Type}
section
variable {E:Env U} {w:World} {St:Ck U->Nat->Prop} {N:Nat} {tm:Array Value}
mutual
theorem mapA_size(g:Nat->Nat):∀ q:A U,size E.sz (mapA g q)=size E.sz q/\isAgg (mapA g q)=isAgg q
 | .agg l=>⟨by simp only[mapA,size];exact mapAs_size g l,rfl⟩
 | .own m=>⟨rfl,rfl⟩
 | .tup l=>⟨rfl,rfl⟩
 | .clo f l=>⟨rfl,rfl⟩
 | .none=>⟨rfl,rfl⟩
 | .sub m c i len=>⟨rfl,rfl⟩
 | .bsl m p c M i len=>⟨rfl,rfl⟩
 | .ptr m p=>⟨rfl,rfl⟩
 | .yld m=>⟨rfl,rfl⟩
 | .tr c9 x9 p9=>⟨rfl,rfl⟩
 | .iv x9=>⟨rfl,rfl⟩
 | .gh g9=>⟨rfl,rfl⟩
 | .int k m=>⟨rfl,rfl⟩
 | .bool k=>⟨rfl,rfl⟩
 | .str k=>⟨rfl,rfl⟩
 | .nilp=>⟨rfl,rfl⟩
 | .nilf=>⟨rfl,rfl⟩
 | .nils c=>⟨rfl,rfl⟩
 | .usl c l=>⟨rfl,rfl⟩
 | .arr c k xs=>⟨rfl,rfl⟩
 | .ro g c xs=>⟨rfl,rfl⟩
 | .clip g c xs=>⟨rfl,rfl⟩
 | .rp g c xs i p=>⟨rfl,rfl⟩
theorem mapAs_size(g:Nat->Nat):∀ q:List (A U),sizes E.sz (mapAs g q)=sizes E.sz q
 | []=>rfl
 | q::l=>by simp only[mapAs,sizes,(mapA_size g q).1,mapAs_size g l]
end
theorem mapAs_map(g:Nat->Nat)(l:List (A U)):mapAs g l=l.map (mapA g):=by
 induction l with
 | nil=>rfl
 | cons a l ih=>simp only[mapAs,ih,List.map_cons]
theorem RC.map{ι ι':Nat->Option Value}{g:Nat->Nat}(hg:∀ n v,ι n=some v->ι' (g n)=some v)(clo:∀ c (x:U c),mapA g (E.enc c x)=E.enc c x)(ok:EnvOk E){l:List (A U)}{cs:List Value}{bs:List Nat}
  (h:RC E w St ι l cs bs):RC E w St ι' (mapAs g l) cs bs:=by
 have encs:∀ {c:Nat} {xs:List (U c)} {ds:List Value},RC E w St ι' (mapAs g (xs.map (E.enc c))) ds []->RC E w St ι' (xs.map (E.enc c)) ds []:=by
  intro c xs ds h
  rw[mapAs_map,List.map_map] at h
  have:(mapA g ∘ E.enc c)=E.enc c:=funext fun x=>clo c x
  rwa [this] at h
 induction h with
 | nil=>exact .nil
 | agg _ _ ih1 ih2=>exact .agg ih1 ih2
 | arr hn _ _ ih1 ih2=>exact .arr hn (encs ih1) ih2
 | int _ ih=>exact .int ih
 | bool _ ih=>exact .bool ih
 | str _ ih=>exact .str ih
 | nilp _ ih=>exact .nilp ih
 | nilf _ ih=>exact .nilf ih
 | nils _ ih=>exact .nils ih
 | roE _ ih=>exact .roE ih
 | ro _ h2 h3 h4 _ ih1 ih=>exact .ro (encs ih1) h2 h3 h4 ih
 | clipE _ ih=>exact .clipE ih
 | clip _ h2 h3 _ ih1 ih=>exact .clip (encs ih1) h2 h3 ih
 | uslE _ ih=>exact .uslE ih
 | usl _ h2 h3 h4 h5 _ ih1 ih=>exact .usl (encs ih1) h2 h3 h4 h5 ih
 | own h1 _ ih=>exact .own (hg _ _ h1) ih
 | sub h1 h2 h3 h4 h5 _ ih=>exact .sub (hg _ _ h1) h2 h3 h4 h5 ih
 | bsl h1 h2 h3 h4 h5 h6 _ ih=>exact .bsl (hg _ _ h1) h2 h3 h4 h5 h6 ih
 | ptr h1 h2 h3 _ ih=>exact .ptr (hg _ _ h1) h2 h3 ih
 | yld h1 _ ih=>exact .yld (hg _ _ h1) ih
 | tr h1 _ ih=>exact .tr h1 ih
 | iv h1 _ ih=>exact .iv h1 ih
 | gh _ ih=>exact .gh ih
 | rp _ h2 h3 h4 h5 _ ih1 ih=>exact .rp (encs ih1) h2 h3 h4 h5 ih
 | clo _ h2 _ ih1 ih=>
  refine .clo ih1 ?_ ih
  rw[h2,mapAs_map,List.map_map]
  exact List.map_congr_left fun a _=>by simp only[Function.comp,(mapA_size (E:=E) g a).1,(mapA_size (E:=E) g a).2]
mutual
theorem mapA_closed(g:Nat->Nat):∀ q:A U,closed q=true->mapA g q=q
 | .agg l,h=>by simp only[mapA];rw[mapAs_closed g l (by simpa[closed] using h)]
 | .clo f l,h=>by simp only[mapA];rw[mapAs_closed g l (by simpa[closed] using h)]
 | .own m,h=>by simp[closed] at h
 | .tup l,h=>by simp[closed] at h
 | .none,h=>rfl
 | .sub m c i len,h=>by simp[closed] at h
 | .bsl m p c M i len,h=>by simp[closed] at h
 | .ptr m p,h=>by simp[closed] at h
 | .yld m,h=>by simp[closed] at h
 | .tr c9 x9 p9,h=>by simp[closed] at h
 | .iv x9,h=>rfl
 | .gh g9,h=>by simp[closed] at h
 | .int k m,h=>rfl
 | .bool k,h=>rfl
 | .str k,h=>rfl
 | .nilp,h=>rfl
 | .nilf,h=>rfl
 | .nils c,h=>rfl
 | .usl c l,h=>rfl
 | .arr c k xs,h=>rfl
 | .ro g c xs,h=>rfl
 | .clip g c xs,h=>rfl
 | .rp g c xs i p,h=>rfl
theorem mapAs_closed(g:Nat->Nat):∀ q:List (A U),closeds q=true->mapAs g q=q
 | [],h=>rfl
 | q::l,h=>by
  simp only[closeds,Bool.and_eq_true] at h
  simp only[mapAs,mapA_closed g q h.1,mapAs_closed g l h.2]
end
section
variable {ι ι':Nat->Option Value} {g:Nat->Nat}
theorem RC.map'(ok:EnvOk E)(hg:∀ n v,ι n=some v->ι' (g n)=some v){l:List (A U)}{cs:List Value}{bs:List Nat}(h:RC E w St ι l cs bs):RC E w St ι' (mapAs g l) cs bs:=
 h.map hg (fun c x=>mapA_closed g _ (ok.clo c x)) ok
theorem RV.map(ok:EnvOk E)(hg:∀ n v,ι n=some v->ι' (g n)=some v){a:A U}{v:Value}(h:RV E w St ι a v):RV E w St ι' (mapA g a) v:=
 ⟨h.1.map' ok hg,h.2.trans (mapA_size (E:=E) g a).2.symm⟩
theorem RVs.map(ok:EnvOk E)(hg:∀ n v,ι n=some v->ι' (g n)=some v):∀ {l:List (A U)} {vs:List Value},RVs E w St ι l vs->RVs E w St ι' (mapAs g l) vs
 | [],[],_=>trivial
 | [],_::_,h=>h.elim
 | _::_,[],h=>h.elim
 | a::l,v::vs,h=>⟨h.1.imp (fun e=>by rw[e];rfl) (fun h=>RV.map ok hg h),RVs.map ok hg h.2⟩
theorem RT.map(ok:EnvOk E)(hg:∀ n v,ι n=some v->ι' (g n)=some v){a:A U}{v:Value}(h:RT E w St ι a v):RT E w St ι' (mapA g a) v:=by
 cases a with
 | none=>exact trivial
 | tup l=>obtain⟨vs,rfl,h⟩:=h;exact⟨vs,rfl,h.map ok hg⟩
 | _=>exact RV.map ok hg h
theorem RO.map(ok:EnvOk E)(hg:∀ n v,ι n=some v->ι' (g n)=some v){o:AObj U}{x:Option Value}(h:RO E w St ι o x):RO E w St ι' (mapO g o) x:=by
 have encs:∀ {c:Nat} {xs:List (U c)} {ds:List Value},RC E w St ι (xs.map (E.enc c)) ds []->RC E w St ι' (xs.map (E.enc c)) ds []:=by
  intro c xs ds h
  have:=h.map' ok hg
  rw[mapAs_map,List.map_map] at this
  have e:(mapA g ∘ E.enc c)=E.enc c:=funext fun x=>mapA_closed g _ (ok.clo c x)
  rwa [e] at this
 cases o with
 | dead=>trivial
 | lp lf lid live vals j=>obtain⟨r,L,h1,h2,h3,h4,h5⟩:=h;exact⟨r,L,h1,h2,h3,h4.map ok hg,h5⟩
 | box a=>obtain⟨B,cs,h1,h2,h3⟩:=h;exact⟨B,cs,h1,h2.map' ok hg,h3⟩
 | lst c xs=>
  rcases h with h|⟨B,off,cap,ds,h1,h2,h3⟩
  ·exact .inl h
  ·exact .inr ⟨B,off,cap,ds,h1,encs h2,h3⟩
 | fz c xs=>
  obtain⟨v,h1,h2⟩:=h
  exact⟨v,h1,by have:=h2.map' ok hg;simpa[mapAs,mapA] using this⟩
theorem mapO_live(g:Nat->Nat)(o:AObj U):isLive (mapO g o)=isLive o:=by cases o<;>rfl
end
structure ResP (E:Env U) (w:World) (St:Ck U->Nat->Prop) (O:Nat->Prop) (ι:Nat->Option Value) (nb:Nat) (K:A U->List (AObj U)->Prop) (v:Value) (w':World) (r:A U) (objs:List (AObj U)) (ι':Nat->Option Value) (St':Ck U->Nat->Prop):Prop where
 k:K r objs
 val:RT E w' St' ι' r v
 heap:HeapR E (nthO objs) w' ι' St'
 out:∀ n,objs.length<=n->ι' n=none
 old:∀ n,n<nb->ι' n=ι n
 fr:Fr (fun B=>O B\/KnB St B) w w'
 own:∀ B,OwnH (nthO objs) ι' B->O B\/w.heap.size<=B
 gr:∀ g B,St' g B->St g B\/O B\/w.heap.size<=B
 kn:∀ c x B,St (.kn c x) B->St' (.kn c x) B
def ProcSound(E:Env U)(f:FuncId)(args:List (A U))(objs:List (AObj U))(K:A U->List (AObj U)->Prop):Prop:=
 (∃ fn,E.P.funcs[f]?=some fn/\fn.body.isSome=true/\(fn.name == "runtime.NumGoroutine")=false) ∧
 ∀ (w:World) (St:Ck U->Nat->Prop) (ι:Nat->Option Value) (vs:Array Value),RVs E w St ι args vs.toList->HeapR E (nthO objs) w ι St->(∀ m,objs.length<=m->ι m=none) →
  Calls E.P f vs w fun e w'=>∃ r v objs' ι' St',e=.returned v/\ResP E w St (OwnH (nthO objs) ι) ι objs.length K v w' r objs' ι' St'
abbrev FR(ro:Option Nat):Fence:={ fn:=fun _=>True,depth:=.none,alive:=false,round:=ro }
def endL(L:Loop)(j:Nat):Loop:={ L with state:=if j=0 then .ready else .done,pending:=jumpOf j }
def RndPost(E:Env U)(l:Nat)(L:Loop)(w:World)(St:Ck U->Nat->Prop)(O:Nat->Prop)(ι:Nat->Option Value)(nb:Nat)(K:A U->List (AObj U)->Prop)(e:Ending)(w':World):Prop:=
 ∃ j objs' ι' St',e=.returned (.bool (Nat.beq j 0))/\w'.heap[l]?=some (.loop (endL L j))/\ResP E w St O ι nb K (fv j #[]) w' (.clo j []) objs' ι' St'/\¬OwnH (nthO objs') ι' l/\¬An St' l
def RoundFits(E:Env U)(f:FuncId)(id:Nat)(args:List (A U)):Prop:=
 ∀ live L,LoopIs E f id live L->args.length=L.params.size+live.length/\(L.params.toList++live).Nodup/\∀ p∈L.params.toList,p<L.tmps.size
def RoundSound(E:Env U)(f:FuncId)(id:Nat)(args:List (A U))(objs:List (AObj U))(K:A U->List (AObj U)->Prop):Prop:=
 RoundFits E f id args/\∀ (ro:Option Nat) (w:World) (St:Ck U->Nat->Prop) (ι:Nat->Option Value) (l:Nat) (live:List Nat) (L:Loop) (tmps:Array Value),LoopIs E f id live L->tmps.size=L.tmps.size →
  RVs E w St ι args ((L.params.toList++live).map fun d=>tmps.getD d undef)->HeapR E (nthO objs) w ι St->(∀ m,objs.length<=m->ι m=none) →
  w.heap[l]?=some (.loop L)->L.state=.ready->¬OwnH (nthO objs) ι l->¬An St l →
  RoundIn (FR ro) 0 E.P l f tmps L.assign L.body w (RndPost E l L w St (fun B=>OwnH (nthO objs) ι B\/B=l) ι objs.length K)
def RowSound(E:Env U)(f:FuncId)(args:List (A U))(objs:List (AObj U))(K:A U->List (AObj U)->Prop):Prop:=
 (Nat.blt f 1000000=true->(memN f E.procs=false->objs=[]->FnSound E f args K)/\(memN f E.procs=true->ProcSound E f args objs K))/\∀ g id,Nat.blt id 1000000=true->f=ykey g id->RoundSound E g id args objs K
def TSound(E:Env U)(T:Tab U):Prop:=∀ f args objs K,T f args objs K->RowSound E f args objs K
theorem nthN_lt:∀ {L:List Nat} {k d:Nat},k<L.length->L[k]?=some (nthN L k d)
 | [],k,d,h=>by simp at h
 | a::l,0,d,h=>rfl
 | a::l,k+1,d,h=>by simpa[nthN] using nthN_lt (L:=l) (d:=d) (by simpa using h)
theorem nthN_ge:∀ {L:List Nat} {k d:Nat},L.length<=k->nthN L k d=d
 | [],k,d,h=>by cases k<;>rfl
 | a::l,0,d,h=>by simp at h
 | a::l,k+1,d,h=>by simpa[nthN] using nthN_ge (L:=l) (d:=d) (by simpa using h)
theorem unr_lt{L:List Nat}{n k:Nat}(h:k<L.length):L[k]?=some (unr L n k):=nthN_lt h
theorem unr_ge{L:List Nat}{n k:Nat}(h:L.length<=k):unr L n k=n+(k-L.length):=nthN_ge h
theorem unr_inj{L:List Nat}{n M:Nat}(hn:L.Nodup)(hL:∀ m∈L,m<n\/M<=m){i j:Nat}(hi:L.length<=i->n+(i-L.length)<M)(hj:L.length<=j->n+(j-L.length)<M)(h:unr L n i=unr L n j):i=j:=by
 by_cases h1:i<L.length
 ·by_cases h2:j<L.length
  ·have e1:=unr_lt (n:=n) h1
   have e2:=unr_lt (n:=n) h2
   rw[h] at e1
   exact nodup_inj hn e1 e2
  ·have e1:=List.mem_of_getElem? (unr_lt (n:=n) h1)
   have e2:=unr_ge (n:=n) (Nat.le_of_not_lt h2)
   have:=hL _ e1
   rw[h,e2] at this
   have:=hj (Nat.le_of_not_lt h2)
   omega
 ·have e1:=unr_ge (n:=n) (Nat.le_of_not_lt h1)
  by_cases h2:j<L.length
  ·have e2:=List.mem_of_getElem? (unr_lt (n:=n) h2)
   have:=hL _ e2
   rw[<-h,e1] at this
   have:=hi (Nat.le_of_not_lt h1)
   omega
  ·have e2:=unr_ge (n:=n) (Nat.le_of_not_lt h2)
   omega
theorem wrP_names{L:List Nat}{n:Nat}:∀ (k:Nat) (l:List (AObj U)),∀ x∈wrP L n k l,∃ i,k<=i/\i<k+l.length/\x.1=unr L n i
 | k,[],x,hx=>by simp[wrP] at hx
 | k,o::l,x,hx=>by
  simp only[wrP,List.mem_cons] at hx
  rcases hx with rfl|hx
  ·exact⟨k,Nat.le_refl _,by simp,rfl⟩
  ·obtain⟨i,h1,h2,h3⟩:=wrP_names (k+1) l x hx
   exact⟨i,by omega,by simp;omega,h3⟩
theorem upds_wrP{L:List Nat}{n:Nat}:∀ (l:List (AObj U)) (k:Nat) (h:Nat->AObj U),(∀ i j,k<=i->i<k+l.length->k<=j->j<k+l.length->unr L n i=unr L n j->i=j) →
  ∀ i,i<l.length->upds h (wrP L n k l) (unr L n (k+i))=mapO (unr L n) (nthO l i)
 | [],k,h,hinj,i,hi=>by simp at hi
 | o::l,k,h,hinj,i,hi=>by
  simp only[wrP,upds]
  cases i with
  | zero=>
   show upds _ (wrP L n (k+1) l) (unr L n k)=_
   rw[upds_notin,upd_same]
   ·rfl
   ·intro hm
    obtain⟨x,hx,e⟩:=List.mem_map.1 hm
    obtain⟨j,h1,h2,h3⟩:=wrP_names (k+1) l x hx
    have:=hinj k j (Nat.le_refl _) (by simp) (by omega) (by simp;omega) (by rw[<-h3,e])
    omega
  | succ i=>
   have:=upds_wrP l (k+1) (upd h (unr L n k) (mapO (unr L n) o)) (fun i j h1 h2 h3 h4=>hinj i j (by omega) (by simp;omega) (by omega) (by simp;omega)) i (by simpa using hi)
   rw[show k+(i+1)=k+1+i by omega,this]
   rfl
end
end Go.V

set_option linter.unusedVariables false
set_option linter.unusedSimpArgs false
namespace Go.V
variable {U:Nat->Type}
section
variable {E:Env U} {w:World} {St:Ck U->Nat->Prop} {ι:Nat->Option Value} {s:S U} {N:Nat}
mutual
theorem frz_congr{h h':Nat->AObj U}:∀ (q:A U),(∀ m∈names q,h' m=h m)->frz h' q=frz h q/\frzN h' q=frzN h q
 | .agg l,e=>by
  obtain⟨h1,h2⟩:=frzs_congr l (by simpa[names] using e)
  simp only[frz,frzN,h1,h2]
  exact⟨trivial,trivial⟩
 | .own m,e=>by
  have:=e m (by simp[names])
  simp only[frz,frzN,this]
  exact⟨trivial,trivial⟩
 | .clip false c l,e=>⟨rfl,rfl⟩
 | .clip true c l,e=>⟨rfl,rfl⟩
 | .none,e=>⟨rfl,rfl⟩
 | .int ..,e=>⟨rfl,rfl⟩
 | .bool ..,e=>⟨rfl,rfl⟩
 | .str ..,e=>⟨rfl,rfl⟩
 | .nilp,e=>⟨rfl,rfl⟩
 | .nilf,e=>⟨rfl,rfl⟩
 | .nils ..,e=>⟨rfl,rfl⟩
 | .arr ..,e=>⟨rfl,rfl⟩
 | .ro ..,e=>⟨rfl,rfl⟩
 | .usl ..,e=>⟨rfl,rfl⟩
 | .sub ..,e=>⟨rfl,rfl⟩
 | .bsl ..,e=>⟨rfl,rfl⟩
 | .ptr ..,e=>⟨rfl,rfl⟩
 | .yld ..,e=>⟨rfl,rfl⟩
 | .tr c9 x9 p9,e=>⟨rfl,rfl⟩
 | .iv x9,e=>⟨rfl,rfl⟩
 | .gh g9,e=>⟨rfl,rfl⟩
 | .rp ..,e=>⟨rfl,rfl⟩
 | .clo ..,e=>⟨rfl,rfl⟩
 | .tup ..,e=>⟨rfl,rfl⟩
theorem frzs_congr{h h':Nat->AObj U}:∀ (q:List (A U)),(∀ m∈namess q,h' m=h m)->frzs h' q=frzs h q/\frzNs h' q=frzNs h q
 | [],e=>⟨rfl,rfl⟩
 | q::l,e=>by
  obtain⟨h1,h2⟩:=frz_congr q fun m hm=>e m (by simp[namess,hm])
  obtain⟨h3,h4⟩:=frzs_congr l fun m hm=>e m (by simp[namess,hm])
  simp only[frzs,frzNs,h1,h2,h3,h4]
  exact⟨trivial,trivial⟩
end
theorem lend1_congr{h h':Nat->AObj U}(q:A U)(e:∀ m∈names q,h' m=h m):lend1 E h' q=lend1 E h q:=by
 cases q with
 | bsl m p c n i len=>
  have:=e m (by simp[names])
  simp only[lend1,content,this]
 | _=>simp only[lend1,(frz_congr _ e).1,(frz_congr _ e).2]
theorem updsC{α:Type}{m:Nat}:∀ (l:List (Nat×α)) (f g:Nat->α),f m=g m->upds f l m=upds g l m
 | [],f,g,h=>h
 | (k,x)::l,f,g,h=>by
  simp only[upds]
  refine updsC l _ _ ?_
  by_cases e:m=k
  ·subst e;rw[upd_same,upd_same]
  ·rw[upd_ne _ _ e,upd_ne _ _ e,h]
theorem lendAll_congr:∀ (q:List (A U)) (h h':Nat->AObj U),(∀ m∈namess q,h' m=h m)->lendAll E h' q=lendAll E h q
 | [],h,h',e=>rfl
 | q::l,h,h',e=>by
  have h1:lend1 E h' q=lend1 E h q:=lend1_congr q fun m hm=>e m (by simp[namess,hm])
  simp only[lendAll,h1]
  rw[lendAll_congr l (upds h (lend1 E h q).2) (upds h' (lend1 E h q).2) fun m hm=>updsC _ _ _ (e m (by simp[namess,hm]))]
mutual
theorem frzN_names{h:Nat->AObj U}:∀ (q:A U),∀ x∈frzN h q,x.1∈names q
 | .agg l,x,hx=>by simp only[frzN] at hx;simpa[names] using frzNs_names l x hx
 | .own m,x,hx=>by
  simp only[frzN] at hx
  split at hx<;>simp_all [names]
 | .clip ..,x,hx=>by simp[frzN] at hx
 | .none,x,hx=>by simp[frzN] at hx
 | .int ..,x,hx=>by simp[frzN] at hx
 | .bool ..,x,hx=>by simp[frzN] at hx
 | .str ..,x,hx=>by simp[frzN] at hx
 | .nilp,x,hx=>by simp[frzN] at hx
 | .nilf,x,hx=>by simp[frzN] at hx
 | .nils ..,x,hx=>by simp[frzN] at hx
 | .arr ..,x,hx=>by simp[frzN] at hx
 | .ro ..,x,hx=>by simp[frzN] at hx
 | .usl ..,x,hx=>by simp[frzN] at hx
 | .sub ..,x,hx=>by simp[frzN] at hx
 | .bsl ..,x,hx=>by simp[frzN] at hx
 | .ptr ..,x,hx=>by simp[frzN] at hx
 | .yld ..,x,hx=>by simp[frzN] at hx
 | .tr c9 x9 p9,x,hx=>by simp[frzN] at hx
 | .iv x9,x,hx=>by simp[frzN] at hx
 | .gh g9,x,hx=>by simp[frzN] at hx
 | .rp ..,x,hx=>by simp[frzN] at hx
 | .clo ..,x,hx=>by simp[frzN] at hx
 | .tup ..,x,hx=>by simp[frzN] at hx
theorem frzNs_names{h:Nat->AObj U}:∀ (q:List (A U)),∀ x∈frzNs h q,x.1∈namess q
 | [],x,hx=>by simp[frzNs] at hx
 | q::l,x,hx=>by
  simp only[frzNs,List.mem_append] at hx
  simp only[namess,List.mem_append]
  exact hx.imp (frzN_names q x) (frzNs_names l x)
end
theorem lend1_names{h:Nat->AObj U}(q:A U):∀ x∈(lend1 E h q).2,x.1∈names q:=by
 intro x hx
 cases q with
 | bsl m p c n i len=>
  simp only[lend1] at hx
  split at hx<;>simp_all [names]
 | _=>exact frzN_names (h:=h) _ x hx
theorem lendAll_names:∀ (q:List (A U)) (h:Nat->AObj U),∀ x∈(lendAll E h q).2,x.1∈namess q
 | [],h,x,hx=>by simp[lendAll] at hx
 | q::l,h,x,hx=>by
  simp only[lendAll,List.mem_append] at hx
  simp only[namess,List.mem_append]
  exact hx.imp (lend1_names q x) (lendAll_names l _ x)
theorem lend1_known{h:Nat->AObj U}(q:A U)(hk:known (lend1 E h q).1=true):known q=true:=by
 cases q with
 | bsl m p c n i len=>rfl
 | _=>exact frz_known h _ hk
theorem lendAll_known:∀ (q:List (A U)) (h:Nat->AObj U),(lendAll E h q).1.all known=true->q.all known=true
 | [],h,hk=>rfl
 | q::l,h,hk=>by
  simp only[lendAll,List.all_cons,Bool.and_eq_true] at hk ⊢
  exact⟨lend1_known q hk.1,lendAll_known l _ hk.2⟩
theorem lend1_ok(ok:EnvOk2 E){tm:Array Value}(q:A U){h:Nat->AObj U}(R:Rel E { s with h:=h } N tm w ι St){v:Value}(hv:RV E w St ι q v)(hk:known (lend1 E h q).1=true)(hh:hole (lend1 E h q).1=false) :
  ∃ St',Ext w St ι w St' ι/\(∀ g B,St' g B->St g B\/OwnH h ι B)/\Rel E { s with h:=upds h (lend1 E h q).2 } N tm w ι St'/\(∀ n,isLive (upds h (lend1 E h q).2 n)=true->isLive (h n)=true)/\RV E w St' ι (lend1 E h q).1 v:=by
 have gen:lend1 E h q=(frz h q,frzN h q)->∃ St',Ext w St ι w St' ι/\(∀ g B,St' g B->St g B\/OwnH h ι B)/\Rel E { s with h:=upds h (lend1 E h q).2 } N tm w ι St'/\(∀ n,isLive (upds h (lend1 E h q).2 n)=true->isLive (h n)=true)/\RV E w St' ι (lend1 E h q).1 v:=by
  intro e
  rw[e] at hk hh ⊢
  obtain⟨St',x,g,R',f,c⟩:=frz_ok (s:={ s with h:=h }) ok q (Frz.refl h) R hv.1 hh
  refine⟨St',x,g,R',fun n hn=>f.live hn,c,?_⟩
  rw[hv.2]
  revert hk
  cases q with
  | own m=>simp only[frz];split<;>simp[isAgg,known]
  | clip b c l=>cases b<;>simp[frz,isAgg]
  | _=>simp[frz,isAgg]
 cases q with
 | bsl m p c n i len=>
  obtain⟨B,a1,cap,r1,r2,r3,r4,r5,r6,r7⟩:=RV.bsl_inv hv
  cases hm:h m with
  | box q0=>
   cases hg:getP E q0 p with
   | arr c' M' l'=>
    cases hb:(Nat.beq c c'&&Nat.beq n M') with
    | false=>simp[lend1,content,hm,hg,hb,known] at hk
    | true=>
     simp only[lend1,content,hm,hg,hb,cond_true]
     simp only[Bool.and_eq_true] at hb
     have e1:=Nat.eq_of_beq_eq_true hb.1
     have e2:=Nat.eq_of_beq_eq_true hb.2
     subst e1;subst e2
     have h0:=R.obj m
     simp only[hm] at h0
     obtain⟨B',cs,h1,h2,h3,h4,h5⟩:=h0
     rw[r1] at h1
     simp only[Option.some.injEq,Value.pointer.injEq,Addr.mk.injEq,and_true] at h1
     subst h1
     obtain⟨g1,g2⟩:=h2.getP ok.toEnvOk p r6 (by rw[hg];rfl)
     rw[hg] at g1 g2
     obtain⟨g3,g4,-⟩:=g1.arr_inv
     have hlen:(cut l' i len).length=len:=by simp only[cut,List.length_take,List.length_drop];omega
     have hl:isLive (h m)=true:=by rw[hm];rfl
     have hB:blkO (ι m)=some B:=by rw[r1];rfl
     have R1:=R.kill m
     have hfree:∀ k,isLive (upd h m .dead k)=true->blkO (ι k)≠some B:=by
      intro k hk2 hk3
      by_cases e:k=m
      ·subst e;rw[upd_same] at hk2;simp[isLive] at hk2
      ·rw[upd_ne _ _ e] at hk2
       exact e (R.dis k m B hk2 hl hk3 hB)
     have R2:=R1.stable B h5 hfree (fun h=>R.apt m B hl hB h.an)
     have x:Ext w St ι w (more St (· = B)) ι:=Ext.stable B
     refine⟨_,x,fun g B' h=>h.imp id fun e=>⟨m,hl,by rw[e.2];exact hB⟩,R2,fun k hk2=>?_,?_⟩
     ·by_cases e:k=m
      ·subst e;exact hl
      ·simp only[upds] at hk2
       rw[upd_ne _ _ e] at hk2;exact hk2
     ·refine .mk1 ?_ rfl (by rw[r7];rfl)
      rw[r7]
      by_cases hz:len=0
      ·have:cut l' i len=[]:=List.eq_nil_of_length_eq_zero (by omega)
       rw[this,hz]
       exact .roE .nil
      ·have ha:=r5.resolve_left (by omega)
       subst ha
       have hr:=rangeAt_sub h3 (po p) (size E.sz (.arr c n l':A U))
       rw[Nat.zero_add] at hr
       obtain⟨es,p1,p2⟩:=cut_cells ok.toEnvOk g4 hr (by omega:i+len<=l'.length)
       have:=RC.ro (b:=false) (cap:=cap) (p1.ext x) p2 (.inr ⟨rfl,rfl⟩:more St (· = B) (.on false) B) (by omega) (.nil:RC E w (more St (· = B)) ι [] [] [])
       rw[hlen] at this
       exact this
   | none=>simp[lend1,content,hm,hg,known] at hk
   | int=>simp[lend1,content,hm,hg,known] at hk
   | bool=>simp[lend1,content,hm,hg,known] at hk
   | str=>simp[lend1,content,hm,hg,known] at hk
   | nilp=>simp[lend1,content,hm,hg,known] at hk
   | nilf=>simp[lend1,content,hm,hg,known] at hk
   | agg=>simp[lend1,content,hm,hg,known] at hk
   | nils=>simp[lend1,content,hm,hg,known] at hk
   | ro=>simp[lend1,content,hm,hg,known] at hk
   | clip=>simp[lend1,content,hm,hg,known] at hk
   | usl=>simp[lend1,content,hm,hg,known] at hk
   | own=>simp[lend1,content,hm,hg,known] at hk
   | sub=>simp[lend1,content,hm,hg,known] at hk
   | bsl=>simp[lend1,content,hm,hg,known] at hk
   | ptr=>simp[lend1,content,hm,hg,known] at hk
   | yld=>simp[lend1,content,hm,hg,known] at hk
   | tr c9 x9 p9=>simp[lend1,content,hm,hg,known] at hk
   | iv x9=>simp[lend1,content,hm,hg,known] at hk
   | gh g9=>simp[lend1,content,hm,hg,known] at hk
   | rp=>simp[lend1,content,hm,hg,known] at hk
   | clo=>simp[lend1,content,hm,hg,known] at hk
   | tup=>simp[lend1,content,hm,hg,known] at hk
  | dead=>simp[lend1,content,hm,known] at hk
  | lp lf lid live vals j=>simp[lend1,content,hm,known] at hk
  | lst=>simp[lend1,content,hm,known] at hk
  | fz=>simp[lend1,content,hm,known] at hk
 | _=>exact gen rfl
theorem lendAll_ok(ok:EnvOk2 E){tm:Array Value}:∀ (l:List (A U)) {h:Nat->AObj U} {St:Ck U->Nat->Prop} {vs:List Value},Rel E { s with h:=h } N tm w ι St->RVs E w St ι l vs->(lendAll E h l).1.all known=true->holes (lendAll E h l).1=false →
  ∃ St',Ext w St ι w St' ι/\(∀ g B,St' g B->St g B\/OwnH h ι B)/\Rel E { s with h:=upds h (lendAll E h l).2 } N tm w ι St'/\(∀ n,isLive (upds h (lendAll E h l).2 n)=true->isLive (h n)=true)/\RVs E w St' ι (lendAll E h l).1 vs
 | [],h,St,vs,R,hv,hk,hh=>⟨St,Ext.refl,fun _ _ h=>.inl h,R,fun _ h=>h,hv⟩
 | q::l,h,St,vs,R,hv,hk,hh=>by
  cases vs with
  | nil=>exact hv.elim
  | cons v vs=>
   simp only[lendAll,List.all_cons,Bool.and_eq_true,holes,Bool.or_eq_false_iff] at hk hh
   have hv1:RV E w St ι q v:=by
    rcases hv.1 with e|h1
    ·rw[e] at hk;simp[lend1,frz,known] at hk
    ·exact h1
   obtain⟨St1,x1,g1,R1,f1,d1⟩:=lend1_ok ok q R hv1 hk.1 hh.1
   obtain⟨St2,x2,g2,R2,f2,d2⟩:=lendAll_ok ok l R1 (hv.2.ext x1) hk.2 hh.2
   refine⟨St2,x1.trans x2,fun g B h3=>?_,?_,?_,?_⟩
   ·rcases g2 g B h3 with h4|⟨n,h4,h5⟩
    ·exact g1 g B h4
    ·exact .inr ⟨n,f1 n h4,h5⟩
   ·simp only[lendAll,upds_append];exact R2
   ·intro n hn
    simp only[lendAll,upds_append] at hn
    exact f1 n (f2 n hn)
   ·exact⟨.inr (d1.ext x2),d2⟩
end
end Go.V
