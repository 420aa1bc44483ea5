/- V: VOpsC, VOpsD, VOpsE, VOpsF, VPlan -/
import Derived.Test.YtnmecdecebdfiaaDoorVJ03
import Derived.ChangeKeysEq
import Derived.Laws.BytesString
import Derived.Lib.ConvBytes
set_option linter.unusedVariables false
set_option linter.unusedSimpArgs false
namespace Go.V
variable {U:Nat->Type}
section
variable {E:Env U} {w:World} {St:Ck U->Nat->Prop} {ι:Nat->Option Value} {s:S U} {N:Nat} {a:Act} {b:Nat} {o:Oper}
theorem eqV_plain(ok:EnvOk2 E){m:Nat}{t:TypeId}(ht:plainTy (E.ty t)=true){p q:A U}{r:Bool}{x y:Value}(h:eqV E (m+1) t p q=some r)(hx:RV E w St ι p x)(hy:RV E w St ι q y)(d:Nat) :
  (Op.equalIn (d+1) t x y).run E.P w=.ok r w:=by
 have hu:=ok.under t
 unfold eqV at h
 cases hty:E.ty t with
 | int k0=>
  rw[hty] at h hu
  simp only[tyOk] at hu
  cases p<;>try (simp at h;done)
  cases q<;>try (simp at h;done)
  rename_i k n k' n'
  simp only[] at h
  by_cases e:k=k'
  ·subst e
   simp only[decide_true,cond_true,Option.some.injEq] at h
   subst h
   rw[RV.int_inv hx,RV.int_inv hy,run_equalIn_int w d t k k0 n n' hu]
   congr 1
  ·simp[e] at h
 | bool=>
  rw[hty] at h hu
  simp only[tyOk] at hu
  cases p<;>try (simp at h;done)
  cases q<;>try (simp at h;done)
  simp only[Option.some.injEq] at h
  subst h
  rw[RV.bool_inv hx,RV.bool_inv hy,run_equalIn_bool w d t _ _ hu]
 | str=>
  rw[hty] at h hu
  simp only[tyOk] at hu
  cases p<;>try (simp at h;done)
  cases q<;>try (simp at h;done)
  simp only[Option.some.injEq] at h
  subst h
  rw[RV.str_inv hx,RV.str_inv hy,run_equalIn_string w d t _ _ hu,toList_eq_iff]
 | _=>rw[hty] at ht;simp[plainTy] at ht
theorem eqV_fits(ok:EnvOk2 E){m:Nat}{t:TypeId}(ht:plainTy (E.ty t)=true){x y:U t}{r:Bool}(h:eqV E (m+1) t (E.enc t x) (E.enc t y)=some r):fits E t (E.enc t x)=true/\fits E t (E.enc t y)=true:=by
 have h1:=ok.encSize t x
 have h2:=ok.encSize t y
 unfold eqV at h
 revert h h1 h2
 generalize E.enc t x=p
 generalize E.enc t y=q
 intro h1 h2 h
 cases hty:E.ty t with
 | int k0=>
  rw[hty] at h
  cases p<;>try (simp at h;done)
  cases q<;>try (simp at h;done)
  simp only[fits,known,isAgg,hty,rowTy,isNo,<-h1]
  simp[size,h2]
 | bool=>
  rw[hty] at h
  cases p<;>try (simp at h;done)
  cases q<;>try (simp at h;done)
  simp only[fits,known,isAgg,hty,rowTy,isNo,<-h1]
  simp[size,h2]
 | str=>
  rw[hty] at h
  cases p<;>try (simp at h;done)
  cases q<;>try (simp at h;done)
  simp only[fits,known,isAgg,hty,rowTy,isNo,<-h1]
  simp[size,h2]
 | _=>rw[hty] at ht;simp[plainTy] at ht
theorem eqItems_run(ok:EnvOk2 E){e:TypeId}(he:plainTy (E.ty e)=true){l1 l2:List (U e)}{xs ys:Array Value}(h1:RC E w St ι (l1.map (E.enc e)) xs.toList [])(h2:RC E w St ι (l2.map (E.enc e)) ys.toList [])(hl:l1.length=l2.length)(d:Nat) :
  ∀ (is:List Nat),(∀ i∈is,i<l1.length)->∃ r,(Op.eqItems (d+1) e (E.P.cellsOf e) xs ys is).run E.P w=.ok r w/\(r=true↔∀ i∈is,l1[i]?=l2[i]?)
 | [],_=>⟨true,by simp[Op.eqItems],by simp⟩
 | i::is,h=>by
  obtain⟨r',hr',hiff⟩:=eqItems_run ok he h1 h2 hl d is fun j hj=>h j (by simp[hj])
  have hi:=h i (by simp)
  have hi2:i<l2.length:=by omega
  have hne:E.ty e≠.no:=by intro e0;rw[e0] at he;simp[plainTy] at he
  obtain⟨j,hj,hs,-⟩:=ok.info e hne
  have hc:E.P.cellsOf e=E.sz e:=by simp[Program.cellsOf,hj,hs]
  obtain⟨r1,-⟩:=h1.elem ok.toEnvOk hi
  obtain⟨r2,-⟩:=h2.elem ok.toEnvOk hi2
  obtain⟨r,hr,hri⟩:=(ok.eqA e he).2 (l1.getD i (E.dflt e)) (l2.getD i (E.dflt e))
  have f1:fits E e (E.enc e (l1.getD i (E.dflt e)))=true/\fits E e (E.enc e (l2.getD i (E.dflt e)))=true:=eqV_fits ok he hr
  rw[<-ok.encSize e (l1.getD i (E.dflt e))] at r1
  rw[<-ok.encSize e (l2.getD i (E.dflt e))] at r2
  obtain⟨x,p1,p2⟩:=part_run ok f1.1 r1
  obtain⟨y,q1,q2⟩:=part_run ok f1.2 r2
  rw[ok.encSize] at p1 q1
  have hrun:=eqV_plain ok he hr p2 q2 d
  rw[hc] at hr' ⊢
  have e1:l1[i]?=some (l1.getD i (E.dflt e)):=by simp[List.getD,hi]
  have e2:l2[i]?=some (l2.getD i (E.dflt e)):=by simp[List.getD,hi2]
  simp only[Op.eqItems,Sem.run_bind,p1,q1,Result.andThen_ok,hrun]
  cases r with
  | false=>
   refine⟨false,by simp,?_⟩
   simp only[Bool.false_eq_true,false_iff]
   intro hall
   have:=hall i (by simp)
   rw[e1,e2] at this
   exact absurd (hri.2 (Option.some.inj this)) (by simp)
  | true=>
   refine⟨r',by simpa using hr',?_⟩
   rw[hiff]
   have:=hri.1 rfl
   constructor
   ·intro h j hj
    rcases List.mem_cons.1 hj with rfl|hj
    ·rw[e1,e2,this]
    ·exact h j hj
   ·intro h j hj
    exact h j (by simp[hj])
theorem eqFields_run(ok:EnvOk2 E){q:TypeId->A U->A U->Option Bool}{d:Nat}(IH:∀ t p p' r x y,q t p p'=some r->RV E w St ι p x->RV E w St ι p' y->(Op.equalIn d t x y).run E.P w=.ok r w)(xs ys:Array Value) :
  ∀ (fields:List Field) (l1 l2:List (A U)) (k:Nat) (r:Bool),(∀ f∈fields,f.name ≠ "_")->eqFs E q (fields.map fun f=>(f.type,f.offset)) l1 l2 k=some r->RC E w St ι l1 (xs.toList.drop k) []->RC E w St ι l2 (ys.toList.drop k) [] →
   (Op.eqFields d xs ys fields).run E.P w=.ok r w
 | [],l1,l2,k,r,_,h,_,_=>by
  cases l1<;>cases l2<;>simp[eqFs] at h
  subst h
  simp[Op.eqFields]
 | f::fields,l1,l2,k,r,hn,h,h1,h2=>by
  cases l1 with
  | nil=>simp[eqFs] at h
  | cons p l1=>
   cases l2 with
   | nil=>simp[eqFs] at h
   | cons p' l2=>
    simp only[List.map_cons,eqFs] at h
    cases hb:(Nat.beq f.offset k&&(fits E f.type p&&fits E f.type p')) with
    | false=>rw[hb] at h;simp at h
    | true=>
     rw[hb] at h
     simp only[cond_true] at h
     simp only[Bool.and_eq_true] at hb
     obtain⟨e0,f1,f2⟩:=hb
     have e0:=Nat.eq_of_beq_eq_true e0
     cases hq:q f.type p p' with
     | none=>rw[hq] at h;simp at h
     | some r1=>
      rw[hq] at h
      cases hr:eqFs E q (fields.map fun f=>(f.type,f.offset)) l1 l2 (k+size E.sz p) with
      | none=>rw[hr] at h;simp at h
      | some r2=>
       rw[hr] at h
       obtain rfl:=Option.some.inj h
       have piece:∀ {v:A U} {l:List (A U)} {zs:Array Value},RC E w St ι (v::l) (zs.toList.drop k) []->RC E w St ι [v] ((zs.toList.drop k).take (size E.sz v)) []/\RC E w St ι l (zs.toList.drop (k+size E.sz v)) []:=by
        intro v l zs h
        obtain⟨c1,c2,b1,b2,hc,hb,h1,h2⟩:=RC.cons_inv h
        obtain⟨rfl,rfl⟩:=nil_or hb
        have hl:=h1.length ok.toEnvOk
        simp only[sizes,Nat.add_zero] at hl
        rw[<-List.drop_drop,hc,<-hl]
        simpa using ⟨h1,h2⟩
       obtain⟨a1,a2⟩:=piece h1
       obtain⟨b1,b2⟩:=piece h2
       have es:size E.sz p=size E.sz p':=((fits_iff f1).2.1).trans ((fits_iff f2).2.1).symm
       have hk:f.offset=k:=e0
       obtain⟨x,p1,p2⟩:=part_run (cs:=xs) (off:=f.offset) ok f1 (by rw[hk];exact a1)
       obtain⟨y,q1,q2⟩:=part_run (cs:=ys) (off:=f.offset) ok f2 (by rw[hk];exact b1)
       have hrun:=IH _ _ _ _ _ _ hq p2 q2
       have hnm:=hn f (by simp)
       have ih:=eqFields_run ok IH xs ys fields l1 l2 (k+size E.sz p) r2 (fun g hg=>hn g (by simp[hg])) hr a2 (by rw[es];exact b2)
       simp only[Op.eqFields,hnm,ne_eq,not_false_eq_true,if_true,Sem.run_bind,p1,q1,Result.andThen_ok,hrun]
       cases r1
       ·simp
       ·simpa using ih
theorem memN_mem{n:Nat}{l:List Nat}:memN n l=true↔n∈l:=by
 induction l with
 | nil=>simp[memN]
 | cons m l ih=>
  simp only[memN,Bool.or_eq_true,ih,List.mem_cons]
  constructor
  ·rintro (h|h)
   ·exact .inl (Nat.eq_of_beq_eq_true h).symm
   ·exact .inr h
  ·rintro (rfl|h)
   ·exact .inl (Nat.beq_refl _)
   ·exact .inr h
theorem eqV_run(ok:EnvOk2 E):∀ (m:Nat) (t:TypeId) (p q:A U) (r:Bool) (x y:Value),eqV E m t p q=some r->RV E w St ι p x->RV E w St ι q y->∀ d,m<=d->(Op.equalIn d t x y).run E.P w=.ok r w
 | 0,t,p,q,r,x,y,h,_,_,_,_=>by simp[eqV] at h
 | m+1,t,p,q,r,x,y,h,hx,hy,d,hd=>by
  obtain⟨d,rfl⟩:=Nat.exists_eq_succ_of_ne_zero (n:=d) (by omega)
  cases hp:plainTy (E.ty t) with
  | true=>exact eqV_plain ok hp h hx hy d
  | false=>
   have hu:=ok.under t
   unfold eqV at h
   cases hty:E.ty t with
   | int k=>rw[hty] at hp;simp[plainTy] at hp
   | bool=>rw[hty] at hp;simp[plainTy] at hp
   | str=>rw[hty] at hp;simp[plainTy] at hp
   | no=>rw[hty] at h;simp at h
   | ifc=>rw[hty] at h;simp at h
   | func=>rw[hty] at h;simp at h
   | sl e=>rw[hty] at h;simp at h
   | ptr e=>
    rw[hty] at h hu
    simp only[tyOk] at hu
    have nn:∀ v:Value,RV E w St ι (.nilp:A U) v->v=.pointer .none:=fun v h=>RV.nilp_inv h
    cases p<;>try (simp at h;done)
    ·cases q<;>try (simp at h;done)
     ·obtain rfl:=Option.some.inj h
      rw[RV.nilp_inv hx,RV.nilp_inv hy]
      simp[Op.equalIn,run_underlying hu]
     ·obtain rfl:=Option.some.inj h
      obtain⟨u,B,off,-,-,-,rfl⟩:=RV.ptr_inv hy
      rw[RV.nilp_inv hx]
      simp[Op.equalIn,run_underlying hu]
     ·obtain rfl:=Option.some.inj h
      obtain⟨ds,B,off,-,-,-,-,-,rfl⟩:=RV.rp_inv hy
      rw[RV.nilp_inv hx]
      simp[Op.equalIn,run_underlying hu]
    ·cases q<;>try (simp at h;done)
     ·obtain rfl:=Option.some.inj h
      obtain⟨u,B,off,-,-,-,rfl⟩:=RV.ptr_inv hx
      rw[RV.nilp_inv hy]
      simp[Op.equalIn,run_underlying hu]
     ·rename_i c' z' pp'
      cases z' with
      | node _ _ _ _=>cases pp'<;>(simp at h;done)
      | nil=>
       cases pp' with
       | cons _ _=>simp at h
       | nil=>
        obtain rfl:=Option.some.inj h
        obtain⟨u,B,off,-,-,-,rfl⟩:=RV.ptr_inv hx
        obtain rfl:y=.pointer .none:=by
         rcases RV.tr_inv hy with ⟨-,-,h⟩|⟨h,-⟩
         ·exact h
         ·cases h
        simp[Op.equalIn,run_underlying hu]
    ·cases q<;>try (simp at h;done)
     obtain rfl:=Option.some.inj h
     obtain⟨ds,B,off,-,-,-,-,-,rfl⟩:=RV.rp_inv hx
     rw[RV.nilp_inv hy]
     simp[Op.equalIn,run_underlying hu]
    ·rename_i c z pp
     cases pp with
     | cons _ _=>cases q<;>(simp at h;done)
     | nil=>
      cases q<;>try (simp at h;done)
      rename_i c' z' pp'
      cases pp' with
      | cons _ _=>cases z'<;>(simp at h;done)
      | nil=>
       cases z' with
       | node _ _ _ _=>simp at h
       | nil=>
        obtain rfl:=Option.some.inj h
        obtain rfl:y=.pointer .none:=by
         rcases RV.tr_inv hy with ⟨-,-,h⟩|⟨h,-⟩
         ·exact h
         ·cases h
        rcases RV.tr_inv hx with ⟨rfl,-,rfl⟩|⟨h,-,B,rfl,-⟩
        ·simp[Op.equalIn,run_underlying hu,KT.isNil]
        ·rw[h];simp[Op.equalIn,run_underlying hu]
   | arr n e=>
    rw[hty] at h hu
    simp only[tyOk] at hu
    cases p<;>try (simp at h;done)
    cases q<;>try (simp at h;done)
    rename_i c n1 l1 c' n2 l2
    simp only[] at h
    split at h
    ·rename_i hcc
     subst hcc
     cases hb:((Nat.blt 0 m&&memN t E.eqs)&&((Nat.beq c' e&&Nat.beq n1 n)&&(Nat.beq n2 n&&plainTy (E.ty e)))) with
     | false=>rw[hb] at h;simp at h
     | true=>
      rw[hb] at h
      simp only[cond_true,Option.some.injEq] at h
      simp only[Bool.and_eq_true] at hb
      obtain⟨⟨h0,-⟩,⟨e1,e2⟩,e3,he⟩:=hb
      have h0:0<m:=by simpa using h0
      have e1:=Nat.eq_of_beq_eq_true e1
      have e2:=Nat.eq_of_beq_eq_true e2
      have e3:=Nat.eq_of_beq_eq_true e3
      subst e1;subst e2;subst e3
      obtain⟨xs,rfl,len1,rc1⟩:=RV.arr_inv hx
      obtain⟨ys,rfl,len2,rc2⟩:=RV.arr_inv hy
      have hne:E.ty c'≠.no:=by intro e0;rw[e0] at he;simp[plainTy] at he
      obtain⟨j,hj,-⟩:=ok.info c' hne
      obtain⟨d,rfl⟩:=Nat.exists_eq_succ_of_ne_zero (n:=d) (by omega)
      obtain⟨r',hr',hiff⟩:=eqItems_run ok he rc1 rc2 (len1.trans len2.symm) d (List.range n2) (fun i hi=>by simpa[len1] using hi)
      rw[run_equalIn_array w (d+1) xs ys hu hj,hr']
      congr 1
      rw[Bool.eq_iff_iff,hiff,<-h,((ok.eqA c' he).1 l1 l2)]
      constructor
      ·intro hall
       refine List.ext_getElem? fun i=>?_
       by_cases hi:i<n2
       ·exact hall i (by simpa using hi)
       ·rw[List.getElem?_eq_none (by omega),List.getElem?_eq_none (by omega)]
      ·rintro rfl i hi;rfl
    ·simp at h
   | st fs=>
    obtain⟨fields,hf,rfl⟩:=under_st ok hty
    rw[hty] at h
    cases p<;>try (simp at h;done)
    cases q<;>try (simp at h;done)
    rename_i l1 l2
    simp only[] at h
    cases hb:memN t E.eqs with
    | false=>rw[hb] at h;simp at h
    | true=>
     rw[hb] at h
     simp only[cond_true] at h
     obtain⟨xs,rfl,rc1⟩:=RV.agg_inv hx
     obtain⟨ys,rfl,rc2⟩:=RV.agg_inv hy
     have hq:=ok.eqT
     unfold eqsOk at hq
     rw[List.all_eq_true] at hq
     have hq:=hq t (memN_mem.1 hb)
     rw[hf] at hq
     simp only[Bool.and_eq_true,Bool.not_eq_true',List.all_eq_true,beq_eq_false_iff_ne,ne_eq] at hq
     have hfo:E.P.fieldsOf t=fields:=by simp[Program.fieldsOf,hf]
     rw[run_equalIn_struct w d t xs ys (by rw[hfo];exact hf) hq.2.2,hfo]
     exact eqFields_run ok (fun t p p' r x y h1 h2 h3=>eqV_run ok m t p p' r x y h1 h2 h3 d (by omega)) xs ys fields.toList l1 l2 0 r (fun f hf=>hq.2.1 f hf) h (by simpa using rc1) (by simpa using rc2)
def SrcAt(E:Env U)(w:World)(St:Ck U->Nat->Prop)(ι:Nat->Option Value)(c:Nat)(x:Value)(l:List (U c)):Prop:=
 ∃ a' cap,x=.slice a' l.length cap/\(l=[]\/∃ B off ds,a'=some ⟨B,off,.none⟩/\RC E w St ι (l.map (E.enc c)) ds []/\w.rangeAt B off ds)
theorem at_nil{c:Nat}(cap:Nat):SrcAt E w St ι c (.slice .none 0 cap) []:=⟨_,_,rfl,.inl rfl⟩
theorem at_empty{c:Nat}(a':Option Addr)(cap:Nat):SrcAt E w St ι c (.slice a' 0 cap) []:=⟨_,_,rfl,.inl rfl⟩
theorem at_cells{c:Nat}{B off cap:Nat}{l:List (U c)}{ds:List Value}(h:RC E w St ι (l.map (E.enc c)) ds [])(hr:w.rangeAt B off ds):SrcAt E w St ι c (.slice (some ⟨B,off,.none⟩) l.length cap) l:=
 ⟨_,_,rfl,.inr ⟨B,off,ds,rfl,h,hr⟩⟩
theorem content_at(ok:EnvOk2 E)(R:Rel E s N a.tmps w ι St){y:A U}{v:Value}(hv:RT E w St ι y v){q:Cont U}(hc:content E s.h y=some q) :
  SrcAt E w St ι q.c v q.l:=by
 cases y with
 | nils c'=>
  obtain rfl:=Option.some.inj hc
  rw[RV.nils_inv hv]
  exact at_nil 0
 | ro g c' l'=>
  obtain rfl:=Option.some.inj hc
  obtain⟨a',cap,h1,h2⟩:=RV.ro_inv hv
  rcases h2 with rfl|⟨ds,B,off,rfl,h3,h4,h5,h6⟩
  ·rw[h1];exact at_empty _ _
  ·rw[h1];exact at_cells h3 h4
 | clip g c' l'=>
  obtain rfl:=Option.some.inj hc
  obtain⟨a',h1,h2⟩:=RV.clip_inv hv
  rcases h2 with rfl|⟨ds,B,off,rfl,h3,h4,h5⟩
  ·rw[h1];exact at_empty _ _
  ·rw[h1];exact at_cells h3 h4
 | own m=>
  obtain⟨a',L,C,h1,h2⟩:=RV.own_inv hv
  have key:s.h m=.lst q.c q.l\/s.h m=.fz q.c q.l:=by
   cases hm:s.h m with
   | lst c' l'=>
    simp only[content,hm] at hc
    obtain rfl:=Option.some.inj hc
    exact .inl rfl
   | fz c' l'=>
    simp only[content,hm] at hc
    obtain rfl:=Option.some.inj hc
    exact .inr rfl
   | dead=>simp[content,hm] at hc
   | lp lf lid live vals j=>simp[content,hm] at hc
   | box q=>simp[content,hm] at hc
  obtain⟨rfl,q⟩:=R.own_at key h2
  rcases q with e0|⟨B,off,ds,rfl,q1,q2,q3⟩
  ·rw[h1,e0];exact at_empty _ _
  ·rw[h1];exact at_cells q1 q2
 | sub m c i len=>
  obtain⟨a0,a1,L,C,cap,r1,r2,r3,r4,r5,r6⟩:=RV.sub_inv hv
  have key:∃ l',(s.h m=.lst c l'\/s.h m=.fz c l')/\q=⟨[m],c,cut l' i len⟩:=by
   cases hm:s.h m with
   | lst c' l'=>
    simp only[content,hm] at hc
    cases hb:Nat.beq c' c with
    | false=>rw[hb] at hc;simp at hc
    | true=>
     rw[hb] at hc
     have:=Nat.eq_of_beq_eq_true hb
     subst this
     obtain rfl:=Option.some.inj hc
     exact⟨l',.inl rfl,rfl⟩
   | fz c' l'=>
    simp only[content,hm] at hc
    cases hb:Nat.beq c' c with
    | false=>rw[hb] at hc;simp at hc
    | true=>
     rw[hb] at hc
     have:=Nat.eq_of_beq_eq_true hb
     subst this
     obtain rfl:=Option.some.inj hc
     exact⟨l',.inr rfl,rfl⟩
   | dead=>simp[content,hm] at hc
   | lp lf lid live vals j=>simp[content,hm] at hc
   | box q=>simp[content,hm] at hc
  obtain⟨l',h1,rfl⟩:=key
  obtain⟨rfl,q⟩:=R.own_at h1 r1
  have hlen:(cut l' i len).length=len:=by simp only[cut,List.length_take,List.length_drop];omega
  rw[r6]
  by_cases hz:len=0
  ·have:cut l' i len=[]:=List.eq_nil_of_length_eq_zero (by omega)
   simp only[this]
   rw[hz]
   exact at_empty _ _
  ·rcases q with rfl|⟨B,off,ds,rfl,q1,q2,q3⟩
   ·simp at r2;omega
   ·have ha:=r5.resolve_left (by omega)
    simp only[Option.map_some,Addr.add_eq] at ha
    subst ha
    obtain⟨es,p1,p2⟩:=cut_cells ok.toEnvOk q1 q2 r2
    have:=at_cells (cap:=cap) p1 p2
    rw[hlen] at this
    exact this
 | bsl m p c M i len=>
  obtain⟨B,a1,cap,r1,r2,r3,r4,r5,r6,r7⟩:=RV.bsl_inv hv
  cases hm:s.h m with
  | box q0=>
   simp only[content,hm] at hc
   cases hg:getP E q0 p with
   | arr c' M' l'=>
    rw[hg] at hc
    cases hb:(Nat.beq c c'&&Nat.beq M M') with
    | false=>simp[hb] at hc
    | true=>
     simp only[hb,cond_true] at hc
     simp only[Bool.and_eq_true] at hb
     have e1:=Nat.eq_of_beq_eq_true hb.1
     have e2:=Nat.eq_of_beq_eq_true hb.2
     subst e1;subst e2
     obtain rfl:=Option.some.inj hc
     have h0:=R.obj m
     rw[hm] at h0
     obtain⟨B',cs,h1,h2,h3,h4,h5⟩:=h0
     rw[r1] at h1
     simp only[Option.some.injEq,Value.pointer.injEq,Addr.mk.injEq,and_true] at h1
     subst h1
     obtain⟨g1,g2⟩:=h2.getP ok.toEnvOk p r6 (by rw[hg];rfl)
     rw[hg] at g1 g2
     obtain⟨g3,g4,-⟩:=g1.arr_inv
     have hlen:(cut l' i len).length=len:=by simp only[cut,List.length_take,List.length_drop];omega
     rw[r7]
     by_cases hz:len=0
     ·have:cut l' i len=[]:=List.eq_nil_of_length_eq_zero (by omega)
      simp only[this]
      rw[hz]
      exact at_empty _ _
     ·have ha:=r5.resolve_left (by omega)
      subst ha
      have hr:=rangeAt_sub h3 (po p) (size E.sz (.arr c M l':A U))
      rw[Nat.zero_add] at hr
      obtain⟨es,p1,p2⟩:=cut_cells ok.toEnvOk g4 hr (by omega:i+len<=l'.length)
      have:=at_cells (cap:=cap) p1 p2
      rw[hlen] at this
      exact this
   | none=>simp[hg] at hc
   | int=>simp[hg] at hc
   | bool=>simp[hg] at hc
   | str=>simp[hg] at hc
   | nilp=>simp[hg] at hc
   | nilf=>simp[hg] at hc
   | agg=>simp[hg] at hc
   | nils=>simp[hg] at hc
   | ro=>simp[hg] at hc
   | clip=>simp[hg] at hc
   | usl=>simp[hg] at hc
   | own=>simp[hg] at hc
   | sub=>simp[hg] at hc
   | bsl=>simp[hg] at hc
   | ptr=>simp[hg] at hc
   | yld=>simp[hg] at hc
   | tr c9 x9 p9=>simp[hg] at hc
   | iv x9=>simp[hg] at hc
   | gh g9=>simp[hg] at hc
   | rp=>simp[hg] at hc
   | clo=>simp[hg] at hc
   | tup=>simp[hg] at hc
  | dead=>simp[content,hm] at hc
  | lp lf lid live vals j=>simp[content,hm] at hc
  | lst=>simp[content,hm] at hc
  | fz=>simp[content,hm] at hc
 | none=>simp[content] at hc
 | int=>simp[content] at hc
 | bool=>simp[content] at hc
 | str=>simp[content] at hc
 | nilp=>simp[content] at hc
 | nilf=>simp[content] at hc
 | agg=>simp[content] at hc
 | arr=>simp[content] at hc
 | usl=>simp[content] at hc
 | ptr=>simp[content] at hc
 | yld=>simp[content] at hc
 | tr c9 x9 p9=>simp[content] at hc
 | iv x9=>simp[content] at hc
 | gh g9=>simp[content] at hc
 | rp=>simp[content] at hc
 | clo=>simp[content] at hc
 | tup=>simp[content] at hc
def isPt:A U->Bool
 | .nilp|.ptr .. | .rp .. | .tr .. => true
 | _=>false
theorem eqV_forms{m:Nat}{t:TypeId}{p q:A U}{r:Bool}(hp:plainTy (E.ty t)=false)(h:eqV E (m+1) t p q=some r):(isAgg p=true/\isAgg q=true/\memN t E.eqs=true)\/(isPt p=true/\isPt q=true):=by
 unfold eqV at h
 cases hty:E.ty t with
 | int k=>rw[hty] at hp;simp[plainTy] at hp
 | bool=>rw[hty] at hp;simp[plainTy] at hp
 | str=>rw[hty] at hp;simp[plainTy] at hp
 | no=>rw[hty] at h;simp at h
 | ifc=>rw[hty] at h;simp at h
 | func=>rw[hty] at h;simp at h
 | sl e=>rw[hty] at h;simp at h
 | ptr e=>
  rw[hty] at h
  cases p<;>cases q<;>first|(simp at h;done)|exact .inr ⟨rfl,rfl⟩
 | arr n e=>
  rw[hty] at h
  cases p<;>cases q<;>first|(simp at h;done)|skip
  simp only[] at h
  split at h
  ·cases hb:memN t E.eqs with
   | false=>rw[hb] at h;simp at h
   | true=>exact .inl ⟨rfl,rfl,rfl⟩
  ·simp at h
 | st fs=>
  rw[hty] at h
  cases p<;>cases q<;>first|(simp at h;done)|skip
  cases hb:memN t E.eqs with
  | false=>rw[hb] at h;simp at h
  | true=>exact .inl ⟨rfl,rfl,rfl⟩
theorem op_eq(ok:EnvOk2 E)(R:Rel E s N a.tmps w ι St)(op:BinOp)(t ty:TypeId)(x y:Operand)(ho:o.op=.binOp op t x y ty)(hp:plainTy (E.ty t)=false){r:Bool}(he:eqV E 20 t (s.ev E t x) (s.ev E ty y)=some r){v:A U}(hv:op=.eql/\v=.bool r\/op=.neq/\v=.bool (!r)) :
  Ops E s N a w ι St b o [] v:=by
 have hforms:=eqV_forms hp he
 have k12:known (s.ev E t x)=true/\known (s.ev E ty y)=true:=by
  rcases hforms with ⟨h1,h2,-⟩|⟨h1,h2⟩
  ·constructor
   ·revert h1;cases s.ev E t x<;>simp[isAgg,known]
   ·revert h2;cases s.ev E ty y<;>simp[isAgg,known]
  ·constructor
   ·revert h1;cases s.ev E t x<;>simp[isPt,known]
   ·revert h2;cases s.ev E ty y<;>simp[isPt,known]
 have h1:=(ev_ok ok R t x).rv k12.1
 have h2:=(ev_ok ok R ty y).rv k12.2
 have hrun:=eqV_run ok 20 t _ _ r _ _ he h1 h2 10000 (by omega)
 have fin:((eqGuard op t x y (a.eval x) (a.eval y)).run E.P w=.ok () w)->((binOp op t (a.eval x) (a.eval y)).run E.P w=.ok (.bool (cond (op==.neq) (!r) r)) w)->Ops E s N a w ι St b o [] v:=by
  intro g1 g2
  rcases hv with ⟨rfl,rfl⟩|⟨rfl,rfl⟩
  ·exact Ops.pure R (u:=.bool r) (by simp only[execOp,ho,Sem.run_bind,g1,Result.andThen_ok,g2];rfl) (RT.of_rv (.mk1 (.bool .nil) rfl rfl))
  ·exact Ops.pure R (u:=.bool (!r)) (by simp only[execOp,ho,Sem.run_bind,g1,Result.andThen_ok,g2];rfl) (RT.of_rv (.mk1 (.bool .nil) rfl rfl))
 rcases hforms with ⟨q1,q2,q3⟩|⟨q1,q2⟩
 ·obtain⟨c1,e1⟩:∃ cs,a.eval x=.agg cs:=by
   have:=h1.2;rw[q1] at this
   revert this;cases a.eval x<;>simp[isAggV]
  obtain⟨c2,e2⟩:∃ cs,a.eval y=.agg cs:=by
   have:=h2.2;rw[q2] at this
   revert this;cases a.eval y<;>simp[isAggV]
  rw[e1,e2] at hrun fin
  have hq:=ok.eqT
  unfold eqsOk at hq
  rw[List.all_eq_true] at hq
  have hq:=hq t (memN_mem.1 q3)
  simp only[Bool.and_eq_true,Bool.not_eq_true'] at hq
  refine fin ?_ ?_
  ·rcases hv with ⟨rfl,-⟩|⟨rfl,-⟩<;>simp[eqGuard,hq.1]
  ·rcases hv with ⟨rfl,-⟩|⟨rfl,-⟩<;>(simp only[binOp,Op.equal,Op.maxDepth,Sem.run_bind,hrun,Result.andThen_ok];rfl)
 ·have pt:∀ {p:A U} {v:Value},isPt p=true->RV E w St ι p v->∃ a',v=.pointer a':=by
   intro p v hp h
   cases p<;>first|(simp[isPt] at hp;done)|skip
   ·exact⟨_,RV.nilp_inv h⟩
   ·obtain⟨_,_,_,-,-,-,e⟩:=RV.ptr_inv h;exact⟨_,e⟩
   ·obtain⟨_,_,_,-,-,-,-,-,e⟩:=RV.rp_inv h;exact⟨_,e⟩
   ·rcases RV.tr_inv h with ⟨-,-,e⟩|⟨-,-,B,e,-⟩<;>exact⟨_,e⟩
  obtain⟨c1,e1⟩:=pt q1 h1
  obtain⟨c2,e2⟩:=pt q2 h2
  rw[e1,e2] at hrun fin
  refine fin ?_ ?_
  ·rcases hv with ⟨rfl,-⟩|⟨rfl,-⟩<;>simp[eqGuard]
  ·rcases hv with ⟨rfl,-⟩|⟨rfl,-⟩<;>(simp only[binOp,Op.equal,Op.maxDepth,Sem.run_bind,hrun,Result.andThen_ok];rfl)
theorem foldl_push:∀ (ns:List Int) (x:ByteArray),ns.foldl (fun r n=>r.push (UInt8.ofNat n.toNat)) x=⟨x.data++(ns.map fun n=>UInt8.ofNat n.toNat).toArray⟩
 | [],x=>by cases x;simp
 | n::ns,x=>by
  rw[List.foldl_cons,foldl_push ns]
  cases x
  simp[ByteArray.push]
theorem map_enc_int(ok:EnvOk2 E){c:Nat}{l:List (U c)}{ns:List Int}(h:l.map (E.enc c)=ns.map (.int .u8)){ds:List Value}(hr:RC E w St ι (l.map (E.enc c)) ds []):ds=ns.map (.int .u8):=by
 rw[h] at hr
 clear h
 induction ns generalizing ds with
 | nil=>cases hr;rfl
 | cons n ns ih=>
  simp only[List.map_cons] at hr ⊢
  cases hr with
  | int h=>rw[ih h]
theorem op_bytes_str(ok:EnvOk2 E)(R:Rel E s N a.tmps w ι St)(t d:TypeId)(x:Operand)(ho:o.op=.convert t d x)(hd:E.ty d=.str){q:Cont U}(hc:content E s.h (s.ev E t x)=some q)(hs:slOf E t q.c=true){g:ByteArray}(hg:E.toBytes q.c q.l=some g) :
  Ops E s N a w ι St b o [] (.str g):=by
 obtain⟨t1,t2⟩:=slOf_iff ok hs
 obtain⟨t3,ns,e1,rfl⟩:=ok.toB _ _ _ hg
 have hu:E.P.underlying d=some .string:=by have:=ok.under d;rw[hd] at this;exact this
 have hu2:E.P.underlying q.c=some (.int .u8):=by have:=ok.under q.c;rw[t3] at this;exact this
 obtain⟨a',cap,h1,h2⟩:=content_at ok R (ev_ok ok R t x) hc
 have hrun:(Conv.bytesToString (.slice a' q.l.length cap)).run E.P w=.ok (.string (bytesOf ns)) w:=by
  have hlen:q.l.length=ns.length:=by simpa using congrArg List.length e1
  rcases h2 with h2|⟨B,off,ds,rfl,h3,h4⟩
  ·have hn:ns=[]:=List.eq_nil_of_length_eq_zero (by rw[<-hlen,h2];rfl)
   subst hn
   cases a' with
   | none=>simp[Conv.bytesToString,Sem.run_pure];rfl
   | some x=>
    have:=run_bytesToString (P:=E.P) w x q.l.length cap [] (by rw[hlen];simpa using run_loadCells_list (P:=E.P) w x [] (by simp))
    rw[this];rfl
  ·have hds:=map_enc_int ok e1 h3
   subst hds
   have:=run_bytesToString (P:=E.P) w ⟨B,off,.none⟩ q.l.length cap ns (by
    rw[hlen]
    have:=run_loadCells_list (P:=E.P) w ⟨B,off,.none⟩ (ns.map (.int .u8)) (fun j v hj=>by rw[Addr.add_eq];exact h4 j v hj)
    simpa using this)
   rw[this,foldl_push]
   simp[bytesOf,ByteArray.empty,ByteArray.emptyWithCapacity]
   try rfl
 refine Ops.pure R (u:=.string (bytesOf ns)) ?_ (RT.of_rv (.mk1 (.str .nil) rfl rfl))
 simp only[execOp,ho,h1,Sem.run_bind,run_convert_bytes_string w t d q.c a' q.l.length cap (under_sl ok t1) hu2 hu,hrun,Result.andThen_ok]
 rfl
end
end Go.V

set_option linter.unusedVariables false
set_option linter.unusedSimpArgs false
namespace Go.V
variable {U:Nat->Type}
section
variable {E:Env U} {w:World} {St:Ck U->Nat->Prop} {ι:Nat->Option Value} {s:S U} {N:Nat} {a:Act} {b:Nat} {o:Oper}
theorem rc_ints:∀ (ns:List Int),RC E w St ι (ns.map (A.int .u8)) (ns.map (Value.int .u8)) []
 | []=>.nil
 | n::ns=>.int (rc_ints ns)
theorem sz_u8(ok:EnvOk2 E){e:TypeId}(t3:E.ty e=.int .u8):E.sz e=1:=by
 obtain⟨r,hr,-⟩:=(ok.eqA e (by rw[t3];rfl)).2 (E.dflt e) (E.dflt e)
 have:=ok.encSize e (E.dflt e)
 unfold eqV at hr
 rw[t3] at hr
 revert hr this
 generalize E.enc e (E.dflt e)=p
 intro this hr
 cases p<;>try (simp at hr;done)
 rw[<-this];rfl
theorem srcV_ok(ok:EnvOk2 E)(R:Rel E s N a.tmps w ι St){tx u:TypeId}{y:A U}{v:Value}(hv:RT E w St ι y v){q:Cont U}(hc:srcV E s.h tx u y=some q):SrcOk E w St ι q.c u v q.l:=by
 unfold srcV at hc
 cases hu:E.ty u with
 | sl e=>rw[hu] at hc;exact content_src ok R hv hu hc
 | str=>
  rw[hu] at hc
  simp only[] at hc
  cases y with
  | str g=>
   cases ht:E.ty tx with
   | sl e=>
    rw[ht] at hc
    simp only[] at hc
    cases hl:E.ofBytes e g with
    | none=>rw[hl] at hc;simp at hc
    | some l=>
     rw[hl] at hc
     simp only[Option.some.injEq] at hc
     subst hc
     obtain⟨t3,e1⟩:=ok.ofB _ _ _ hl
     have hun:E.P.underlying u=some .string:=by have:=ok.under u;rw[hu] at this;exact this
     have hlen:l.length=g.size:=by
      have:=congrArg List.length e1
      simp only[List.length_map,bytesTo,Array.length_toList] at this
      exact this
     rw[RV.str_inv hv]
     refine⟨byteCells g,?_,?_⟩
     ·show Src E.P (E.sz e) u _ l.length _ w
      rw[sz_u8 ok t3,hlen];exact Src.ofString w hun g
     ·show RC E w St ι (l.map (E.enc e)) _ _
      rw[e1]
      have hb:byteCells g=(bytesTo g).map (Value.int .u8):=by unfold byteCells bytesTo;rw[List.map_map];rfl
      rw[hb];exact rc_ints _
   | _=>rw[ht] at hc;simp at hc
  | _=>simp at hc
 | _=>rw[hu] at hc;simp at hc
theorem op_str_bytes(ok:EnvOk2 E)(R:Rel E s N a.tmps w ι St)(hb:ι b=none)(hd:isLive (s.h b)=false)(t d:TypeId)(x:Operand)(ho:o.op=.convert t d x){e:TypeId}(hde:E.ty d=.sl e)(ht:E.ty t=.str){g:ByteArray}(hx:s.ev E t x=.str g){l:List (U e)}(hl:E.ofBytes e g=some l) :
  Ops E s N a w ι St b o [(b,.lst e l)] (.own b):=by
 obtain⟨t3,e1⟩:=ok.ofB _ _ _ hl
 have hu:E.P.underlying t=some .string:=by have:=ok.under t;rw[ht] at this;exact this
 have hu2:E.P.underlying e=some (.int .u8):=by have:=ok.under e;rw[t3] at this;exact this
 have hv:=ev_ok ok R t x
 rw[hx] at hv
 have hv:=RV.str_inv hv
 have hrun:=Lib.run_convert_string_bytes (P:=E.P) w t d e g hu (under_sl ok hde) hu2
 have hlen:l.length=g.size:=by
  have:=congrArg List.length e1
  simp only[List.length_map,bytesTo,Array.length_toList] at this
  exact this
 have hsz1:E.sz e=1:=by
  have hne:E.ty e≠.no:=by rw[t3];simp
  obtain⟨i,z,hi,hz,hzs,hrc⟩:=ok.dfl e hne
  obtain⟨r,hr,-⟩:=(ok.eqA e (by rw[t3];rfl)).2 (E.dflt e) (E.dflt e)
  have:=ok.encSize e (E.dflt e)
  unfold eqV at hr
  rw[t3] at hr
  revert hr this
  generalize E.enc e (E.dflt e)=p
  intro this hr
  cases p<;>try (simp at hr;done)
  rw[<-this];rfl
 let C:=grownCap w g.size 0 e
 have hC:g.size<=C:=Nat.le_add_right _ _
 have hfr:Fr (fun _=>False) w (Lib.bytesWorld w e g):=⟨by rw[Lib.bytesWorld_size];omega,fun B hB _=>Lib.bytesWorld_at_old w e g B hB,rfl,rfl,rfl,.inr (Nat.le_succ _)⟩
 have hx1:=fresh_ext (v:=some (.slice (some ⟨w.heap.size,0,.none⟩) g.size C)) hb hfr R.stb
 refine Ops.fresh R hb hd (ob:=.lst e l) (u:=.slice (some ⟨w.heap.size,0,.none⟩) g.size C) (x:=.slice (some ⟨w.heap.size,0,.none⟩) g.size C) (w':=Lib.bytesWorld w e g) ?_ hfr ?_ ?_ ?_
 ·simp only[execOp,ho,hv,Sem.run_bind,hrun,Result.andThen_ok];rfl
 ·by_cases h0:C=0
  ·left;unfold blk;rw[h0,base_zero];rfl
  ·right;exact⟨w.heap.size,blk_pos (by omega),Nat.le_refl _⟩
 ·by_cases h0:C=0
  ·left
   exact⟨⟨some ⟨w.heap.size,0,.none⟩,by rw[h0,show g.size=0 by omega]⟩,List.eq_nil_of_length_eq_zero (by omega)⟩
  ·refine RO.lst_of (B:=w.heap.size) (off:=0) (cap:=C) (ds:=(bytesTo g).map (.int .u8)) (by omega) (by rw[hlen]) ?_ ?_ ?_ (by omega) (by rw[Lib.bytesWorld_size];omega)
   ·rw[e1];exact rc_ints _
   ·intro j v hj
    have hj2:j<g.size:=by
     rcases Nat.lt_or_ge j g.size with h|h
     ·exact h
     ·rw[List.getElem?_eq_none (by simpa[bytesTo] using h)] at hj;cases hj
    rw[Nat.zero_add,Lib.bytesWorld_cell w e g j hj2,<-hj]
    have hj3:j<g.data.size:=hj2
    rw[List.getElem?_map,bytesTo,List.getElem?_map]
    rw[List.getD,Array.getElem?_toList,Array.getElem?_eq_getElem hj3]
    rfl
   ·refine⟨fun j hj=>?_,fun hq=>absurd t3 hq⟩
    rw[hsz1,Nat.mul_one] at hj
    have hz:(Lib.bytesCells w e g).size=C:=by
     simp only[Lib.bytesCells,Array.size_append,Array.size_map,Array.size_replicate]
     show g.size+(C-g.size)=C
     omega
    rw[Nat.zero_add]
    constructor
    ·simp only[World.cell?,Lib.bytesWorld_at_new]
     simp[hz,hj]
    ·simp only[World.frozen?,Lib.bytesWorld_at_new]
     simp[hz]
     omega
 ·exact RT.of_rv (.mk1 (.own (upd_same _ _ _) .nil) rfl rfl)
theorem args_int(ok:EnvOk2 E)(R:Rel E s N a.tmps w ι St)(f:Int->Int->Int)(g:Value->Value->Sem Value)(hg:∀ (k:IntKind) (x y:Int) (k':IntKind),(g (.int k x) (.int k' y)).run E.P w=.ok (.int k (f x y)) w)(k:IntKind) :
  ∀ (xs:List Operand) (ts:List TypeId) (n m:Int),foldJ f n (evArgs E s xs ts)=some m->((xs.map a.eval).foldlM g (.int k n)).run E.P w=.ok (.int k m) w
 | [],ts,n,m,h=>by
  cases ts<;>(simp only[evArgs,foldJ,Option.some.injEq] at h;subst h;rfl)
 | x::xs,ts,n,m,h=>by
  have key:∀ t ts',foldJ f n (s.ev E t x::evArgs E s xs ts')=some m->(((x::xs).map a.eval).foldlM g (.int k n)).run E.P w=.ok (.int k m) w:=by
   intro t ts' h
   have hv:=ev_ok ok R t x
   cases hx:s.ev E t x with
   | int k' y=>
    rw[hx] at h hv
    simp only[foldJ] at h
    have hv:=RV.int_inv hv
    have ih:=args_int ok R f g hg k xs ts' (f n y) m h
    rw[List.map_cons,List.foldlM_cons,hv,Sem.run_bind,hg]
    exact ih
   | _=>rw[hx] at h;simp[foldJ] at h
  cases ts with
  | nil=>exact key 0 [] h
  | cons t ts=>exact key t ts h
theorem op_fold(ok:EnvOk2 E)(R:Rel E s N a.tmps w ι St){c:Call}(ho:o.op=.call c){k:IntKind}{n:Int}(h:c.callee=.builtin .max/\foldI maxI (evArgs E s c.args.toList c.argTypes.toList)=some (k,n)\/c.callee=.builtin .min/\foldI minI (evArgs E s c.args.toList c.argTypes.toList)=some (k,n)) :
  Ops E s N a w ι St b o [] (.int k n):=by
 have key:∀ (f:Int->Int->Int) (g:Value->Value->Sem Value),(∀ (k:IntKind) (x y:Int) (k':IntKind),(g (.int k x) (.int k' y)).run E.P w=.ok (.int k (f x y)) w)->foldI f (evArgs E s c.args.toList c.argTypes.toList)=some (k,n) →
   ∃ x xs,c.args.toList=x::xs/\((xs.map a.eval).foldlM g (a.eval x)).run E.P w=.ok (.int k n) w:=by
  intro f g hg hf
  cases hx:c.args.toList with
  | nil=>rw[hx] at hf;cases c.argTypes.toList<;>simp[evArgs,foldI] at hf
  | cons x xs=>
   refine⟨x,xs,rfl,?_⟩
   have go:∀ t ts,foldI f (s.ev E t x::evArgs E s xs ts)=some (k,n)->((xs.map a.eval).foldlM g (a.eval x)).run E.P w=.ok (.int k n) w:=by
    intro t ts hf
    have hv:=ev_ok ok R t x
    cases hy:s.ev E t x with
    | int k' y=>
     rw[hy] at hf hv
     simp only[foldI] at hf
     rw[RV.int_inv hv]
     cases hj:foldJ f y (evArgs E s xs ts) with
     | none=>rw[hj] at hf;simp at hf
     | some m=>
      rw[hj] at hf
      simp only[Option.some.injEq,Prod.mk.injEq] at hf
      obtain⟨rfl,rfl⟩:=hf
      exact args_int ok R f g hg k' xs ts y m hj
    | _=>rw[hy] at hf;simp[foldI] at hf
   rw[hx] at hf
   cases hts:c.argTypes.toList with
   | nil=>rw[hts] at hf;exact go 0 [] hf
   | cons t ts=>rw[hts] at hf;exact go t ts hf
 refine Ops.pure R (u:=.int k n) ?_ (RT.of_rv (.mk1 (.int .nil) rfl rfl))
 rcases h with ⟨hc,h⟩|⟨hc,h⟩
 ·obtain⟨x,xs,h1,h2⟩:=key maxI Builtin.max2 (fun k x y k'=>by
   simp only[Builtin.max2,Sem.run_pure,maxI,Bool.cond_decide]) h
  have h3:(c.args.map a.eval).toList=a.eval x::xs.map a.eval:=by simp[h1]
  simp only[execOp,ho,resolve,hc,Sem.run_bind,Sem.run_pure,Result.andThen_ok,invoke,builtin,Builtin.max_,h3,h2]
 ·obtain⟨x,xs,h1,h2⟩:=key minI Builtin.min2 (fun k x y k'=>by
   simp only[Builtin.min2,Sem.run_pure,minI,Bool.cond_decide]) h
  have h3:(c.args.map a.eval).toList=a.eval x::xs.map a.eval:=by simp[h1]
  simp only[execOp,ho,resolve,hc,Sem.run_bind,Sem.run_pure,Result.andThen_ok,invoke,builtin,Builtin.min_,h3,h2]
theorem RC.takeE(ok:EnvOk E){c:Nat}{l:List (U c)}{ds:List Value}(h:RC E w St ι (l.map (E.enc c)) ds [])(i:Nat)(hi:i<=l.length):RC E w St ι ((l.take i).map (E.enc c)) (ds.take (i*E.sz c)) []/\RC E w St ι ((l.drop i).map (E.enc c)) (ds.drop (i*E.sz c)) []:=by
 have hm:=congrArg (List.map (E.enc c)) (List.take_append_drop i l)
 rw[List.map_append] at hm
 rw[<-hm] at h
 obtain⟨c1,c2,b1,b2,rfl,hb,h1,h2⟩:=RC.split h
 obtain⟨rfl,rfl⟩:=nil_or hb
 have l1:=h1.length ok
 rw[sizes_enc ok,List.length_take,Nat.min_eq_left hi] at l1
 rw[<-l1,List.take_left,List.drop_left]
 exact⟨h1,h2⟩
theorem splice_in(cs news:List Value)(P L0 x:Nat)(h1:P+L0<=cs.length)(h2:x+news.length<=L0) :
  cs.take P++((((cs.drop P).take L0).take x++(news++((cs.drop P).take L0).drop (x+news.length)))++cs.drop (P+L0))=cs.take (P+x)++(news++cs.drop (P+x+news.length)):=by
 have e1:((cs.drop P).take L0).take x=(cs.drop P).take x:=by rw[List.take_take,Nat.min_eq_left (by omega)]
 have e2:((cs.drop P).take L0).drop (x+news.length)++cs.drop (P+L0)=cs.drop (P+x+news.length):=by
  rw[List.drop_take,List.drop_drop,show P+(x+news.length)=P+x+news.length by omega]
  have:=List.take_append_drop (L0-(x+news.length)) (cs.drop (P+x+news.length))
  rw[List.drop_drop,show P+x+news.length+(L0-(x+news.length))=P+L0 by omega] at this
  exact this
 rw[e1,List.append_assoc,List.append_assoc,e2,<-List.append_assoc,<-List.take_add]
theorem op_copy(ok:EnvOk2 E)(R:Rel E s N a.tmps w ι St){c:Call}(hc:c.callee=.builtin .copy)(ho:o.op=.call c){x y:Operand}{t tx:TypeId}(ha:c.args.toList=[x,y])(hat:c.argTypes.toList=[t,tx])
  {m:Nat} {p:List Step} {e n i len:Nat} (hx:s.ev E t x=.bsl m p e n i len) (ht:slOf E t e=true) {q:A U} (hm:s.h m=.box q) {l:List (U e)} (hg:getP E q p=.arr e n l) {cq:Cont U} (hcq:content E s.h (s.ev E tx y)=some cq)
  {src:List (U e)} (hsrc:∃ h:cq.c=e,h▸cq.l=src) {q':A U} (hs:setP E q p (.arr e n (splice l i src (Nat.min src.length len)))=some q') :
  Ops E s N a w ι St b o [(m,.box q')] (.int .i64 ((Nat.min src.length len:Nat):Int)):=by
 obtain⟨hce,hcl⟩:=hsrc
 obtain⟨cr,cc,cl⟩:=cq
 simp only at hce hcl
 subst hce
 simp only at hcl
 subst hcl
 obtain⟨t1,t2⟩:=slOf_iff ok ht
 obtain⟨inf,hinf,hsz,-⟩:=ok.info cc t2
 have hv:=ev_ok ok R t x
 rw[hx] at hv
 obtain⟨B,a',cap,r1,r2,r3,r4,r5,r6,r7⟩:=RV.bsl_inv hv
 have h0:=R.obj m
 rw[hm] at h0
 obtain⟨B',cs,g1,g2,g3,g4,g5⟩:=h0
 rw[r1] at g1
 simp only[Option.some.injEq,Value.pointer.injEq,Addr.mk.injEq,and_true] at g1
 subst g1
 obtain⟨p1,p2⟩:=g2.getP ok.toEnvOk p r6 (by rw[hg];rfl)
 rw[hg] at p1 p2
 obtain⟨p3,p4,-⟩:=p1.arr_inv
 obtain⟨as,scap,q1,q2⟩:=content_at ok R (ev_ok ok R tx y) hcq
 simp only at q1 q2
 let k:=Nat.min cl.length len
 have hk1:k<=cl.length:=Nat.min_le_left _ _
 have hk2:k<=len:=Nat.min_le_right _ _
 have read:∃ news,(Builtin.firstCells inf.size k (.slice as cl.length scap)).run E.P w=.ok news.toArray w/\RC E w St ι ((cl.take k).map (E.enc cc)) news []/\(∀ v∈news,v.oneCell'=true):=by
  rcases q2 with h|⟨B2,off,ds,rfl,h1,h2⟩
  ·subst h
   have hk0:k=0:=by simp only[List.length_nil] at hk1;omega
   refine⟨[],?_,by rw[hk0];exact .nil,by simp⟩
   cases as with
   | none=>rfl
   | some z=>
    have:=run_loadCells_list (P:=E.P) w z [] (by simp)
    rw[hk0]
    simpa[Builtin.firstCells] using this
  ·obtain⟨d1,-⟩:=h1.takeE ok.toEnvOk k hk1
   refine⟨_,?_,d1,d1.oneCell⟩
   have hl:=d1.length ok.toEnvOk
   rw[sizes_enc ok.toEnvOk,List.length_take (l:=cl),Nat.min_eq_left hk1] at hl
   have:=run_loadCells_list (P:=E.P) w ⟨B2,off,.none⟩ (ds.take (k*E.sz cc)) (fun j v hj=>by
    rw[Addr.add_eq]
    refine h2 j v ?_
    rw[List.getElem?_take] at hj
    split at hj
    ·exact hj
    ·cases hj)
   simp only[Builtin.firstCells,hsz]
   rw[hl] at this
   exact this
 obtain⟨news,n1,n2,n3⟩:=read
 have hnl:=n2.length ok.toEnvOk
 rw[sizes_enc ok.toEnvOk,List.length_take (l:=cl),Nat.min_eq_left hk1] at hnl
 have hL0:((cs.drop (po p)).take (size E.sz (.arr cc n l:A U))).length=n*E.sz cc:=by
  have:=p4.length ok.toEnvOk
  rw[sizes_enc ok.toEnvOk,p3] at this
  exact this
 have hle:po p+n*E.sz cc<=cs.length:=p2
 have hkn:i*E.sz cc+news.length<=n*E.sz cc:=by
  rw[hnl,<-Nat.add_mul]
  exact Nat.mul_le_mul_right _ (by omega)
 have hnew:RC E w St ι [(.arr cc n (splice l i cl k):A U)] (((cs.drop (po p)).take (n*E.sz cc)).take (i*E.sz cc)++(news++((cs.drop (po p)).take (n*E.sz cc)).drop (i*E.sz cc+news.length))) []:=by
  have h1:=(p4.takeE ok.toEnvOk i (by omega)).1
  have h2:=(p4.takeE ok.toEnvOk (i+k) (by omega)).2
  have:RC E w St ι ((splice l i cl k).map (E.enc cc)) (((cs.drop (po p)).take (n*E.sz cc)).take (i*E.sz cc)++(news++((cs.drop (po p)).take (n*E.sz cc)).drop (i*E.sz cc+news.length))) []:=by
   simp only[splice,List.map_append]
   refine RC.append (bs:=[]) (bs':=[]) h1 (RC.append (bs:=[]) (bs':=[]) n2 ?_)
   rw[hnl,<-Nat.add_mul]
   exact h2
  have hlen:(splice l i cl k).length=n:=by
   simp only[splice,List.length_append,List.length_take,List.length_drop,Nat.min_eq_left hk1]
   omega
  simpa using RC.arr hlen this .nil
 obtain⟨s1,s2,s3,s4,s5⟩:=g2.setP ok.toEnvOk p r6 hs hnew
 have hdl:(((cs.drop (po p)).take (n*E.sz cc)).take (i*E.sz cc)++(news++((cs.drop (po p)).take (n*E.sz cc)).drop (i*E.sz cc+news.length))).length=n*E.sz cc:=by
  have hh:=hL0
  simp only[size] at hh
  simp only[List.length_append,List.length_take,List.length_drop] at hh ⊢
  omega
 rw[hdl,splice_in cs news (po p) (n*E.sz cc) (i*E.sz cc) hle hkn] at s1
 have hrun:(Builtin.copy_ #[t,tx] o.type #[a.eval x,a.eval y]).run E.P w=.ok (goInt k) (w.setCells B (po p+i*E.sz cc) news):=by
  rw[r7,q1]
  have hst:(match a' with|some z=>storeCells z news.toArray.toList|none=>pure ()).run E.P w=.ok () (w.setCells B (po p+i*E.sz cc) news):=by
   by_cases h0:news=[]
   ·subst h0
    cases a'<;>rfl
   ·have hk0:0<k:=by
     rcases Nat.eq_zero_or_pos k with h|h
     ·rw[h] at hnl
      exact absurd (List.eq_nil_of_length_eq_zero (by rw[hnl];simp)) h0
     ·exact h
    have ha:=r5.resolve_left (by omega)
    subst ha
    have:=run_storeCells_cells (P:=E.P) B (po p+i*E.sz cc) news 0 w
     (fun j hj=>by have:=(g4 (po p+i*E.sz cc+j) (by omega)).1;simpa using this)
     (fun j hj=>by have:=(g4 (po p+i*E.sz cc+j) (by omega)).2;simpa using this) n3
    simpa using this
  have hk:Nat.min cl.length len=k:=rfl
  cases ha':a' with
  | none=>
   rw[ha'] at hst
   have hst:w=w.setCells B (po p+i*E.sz cc) news:=by
    have:(Result.ok () w:Result Unit)=.ok () (w.setCells B (po p+i*E.sz cc) news):=hst
    simpa using this
   simp[Builtin.copy_,run_underlying (under_sl ok t1),Builtin.lenOf,sizeOf,typeInfo,hinf,n1,hk]
   exact hst
  | some z=>
   rw[ha'] at hst
   simp only[] at hst
   simp[Builtin.copy_,run_underlying (under_sl ok t1),Builtin.lenOf,sizeOf,typeInfo,hinf,n1,hst,hk]
 refine Ops.store R hm r1 (off:=po p+i*E.sz cc) (ds:=news) (nx:=.value (goInt k)) (u:=goInt k) ?_ (.inl rfl) g5 s1 ?_ ?_ (fun _ _=>RT.of_rv (.mk1 (.int .nil) rfl rfl))
 ·have h1:c.args = #[x,y]:=Array.ext' (by simpa using ha)
  have h2:c.argTypes = #[t,tx]:=Array.ext' (by simpa using hat)
  simp only[execOp,ho,resolve,hc,Sem.run_bind,Sem.run_pure,Result.andThen_ok,invoke,builtin,h1,h2]
  simp[hrun]
 ·have:=range_splice (w:=w) (B:=B) (off:=0) (k:=po p+i*E.sz cc) g3 (ds:=news) (by omega)
  simpa using this
 ·have hlen:(cs.take (po p+i*E.sz cc)++(news++cs.drop (po p+i*E.sz cc+news.length))).length=cs.length:=by
   simp only[List.length_append,List.length_take,List.length_drop];omega
  rw[hlen]
  exact there_setCells g4
theorem slice_run'(ok:EnvOk2 E){t e:TypeId}(ht:E.ty t=.sl e)(hne:E.ty e≠.no)(a':Option Addr)(n cap:Nat)(lo hi:Option Value)(l h:Int)
  (hl:lo=none/\l=0\/∃ k,lo=some (.int k l)) (hh:hi=none/\h=n\/∃ k,hi=some (.int k h)) (h0:0<=l) (h1:l<=h) (h2:h<=n) (hc:n<=cap) :
  (Instr.sliceAt t (.slice a' n cap) lo hi none).run E.P w=.ok (.slice (if cap=l.toNat then a' else a'.map (·.add (l.toNat*E.sz e))) (h.toNat-l.toNat) (cap-l.toNat)) w:=by
 obtain⟨i,hi',hs,-⟩:=ok.info e hne
 have hb:=bounds_run (E:=E) (w:=w) true n cap lo hi l h hl hh h0 h1 h2 hc
 simp[Instr.sliceAt,Instr.slice,run_underlying (under_sl ok ht),hb,sizeOf,typeInfo,hi',hs]
theorem op_slice_own(ok:EnvOk2 E)(R:Rel E s N a.tmps w ι St)(t:TypeId)(x:Operand)(lo hi:Option Operand)(ho:o.op=.slice t x lo hi none){m c:Nat}{l:List (U c)}(hx:s.ev E t x=.own m)(hm:s.h m=.lst c l\/s.h m=.fz c l)(ht:slOf E t c=true)
  {i j:Int} (h1:optI 0 (lo.map (s.ev E 0))=some i) (h2:optI (l.length:Int) (hi.map (s.ev E 0))=some j) (b0:0<=i) (b1:i<=j) (b2:j<=(l.length:Int)) :
  Ops E s N a w ι St b o [] (.sub m c i.toNat (j-i).toNat):=by
 obtain⟨t1,t2⟩:=slOf_iff ok ht
 have hv:=ev_ok ok R t x
 rw[hx] at hv
 obtain⟨a',L,C,q1,q2⟩:=RV.own_inv hv
 obtain⟨rfl,q3⟩:=R.own_at hm q2
 have hle:l.length<=C:=by
  rcases q3 with rfl|⟨_,_,_,_,_,_,h⟩
  ·exact Nat.zero_le _
  ·exact h
 have hrun:=slice_run' (w:=w) ok t1 t2 a' l.length C (lo.map a.eval) (hi.map a.eval) i j (optI_ok ok R 0 lo h1) (optI_ok ok R _ hi h2) b0 b1 b2 hle
 refine Ops.pure R (u:=_) (by simp only[execOp,ho,q1,Option.map_none];rw[Sem.run_bind,hrun];rfl) (RT.of_rv (.mk1 ?_ rfl rfl))
 rw[show j.toNat-i.toNat=(j-i).toNat by omega]
 refine .sub q2 (by omega) (by omega) (by omega) ?_ .nil
 by_cases h:C=i.toNat
 ·exact .inl (by omega)
 ·rw[if_neg h];exact .inr rfl
theorem op_slice_sub(ok:EnvOk2 E)(R:Rel E s N a.tmps w ι St)(t:TypeId)(x:Operand)(lo hi:Option Operand)(ho:o.op=.slice t x lo hi none){m c k len:Nat}{l:List (U c)}(hx:s.ev E t x=.sub m c k len)(hm:s.h m=.lst c l)(ht:slOf E t c=true)
  {i j:Int} (h1:optI 0 (lo.map (s.ev E 0))=some i) (h2:optI (len:Int) (hi.map (s.ev E 0))=some j) (b0:0<=i) (b1:i<=j) (b2:j<=(len:Int)) :
  Ops E s N a w ι St b o [] (.sub m c (k+i.toNat) (j-i).toNat):=by
 obtain⟨t1,t2⟩:=slOf_iff ok ht
 have hv:=ev_ok ok R t x
 rw[hx] at hv
 obtain⟨a0,a',L,C,cap,q1,q2,q3,q4,q5,q6⟩:=RV.sub_inv hv
 have hrun:=slice_run' (w:=w) ok t1 t2 a' len cap (lo.map a.eval) (hi.map a.eval) i j (optI_ok ok R 0 lo h1) (optI_ok ok R _ hi h2) b0 b1 b2 q3
 refine Ops.pure R (u:=_) (by simp only[execOp,ho,q6,Option.map_none];rw[Sem.run_bind,hrun];rfl) (RT.of_rv (.mk1 ?_ rfl rfl))
 rw[show j.toNat-i.toNat=(j-i).toNat by omega]
 refine .sub q1 (by omega) (by omega) (by omega) ?_ .nil
 by_cases h:cap=i.toNat
 ·exact .inl (by omega)
 ·rw[if_neg h]
  have hcap:cap≠0:=fun e=>by omega
  have e1:=q5.resolve_left hcap
  have h0:=R.obj m
  rw[hm] at h0
  rcases h0 with ⟨⟨z,hz⟩,-⟩|⟨B,off,C',ds,hz,-⟩
  ·rw[q1] at hz
   simp only[Option.some.injEq,Value.slice.injEq] at hz
   omega
  ·rw[q1] at hz
   simp only[Option.some.injEq,Value.slice.injEq] at hz
   obtain⟨rfl,-,-⟩:=hz
   right
   rw[e1]
   simp only[Option.map_some,Addr.add_eq,Option.some.injEq,Addr.mk.injEq,true_and,and_true]
   rw[Nat.add_mul]
   omega
end
end Go.V

set_option linter.unusedVariables false
namespace Go.V
variable {U:Nat->Type}
section
variable {E:Env U} {w:World} {St:Ck U->Nat->Prop} {ι:Nat->Option Value} {s:S U} {N:Nat} {a:Act} {b:Nat} {o:Oper}
mutual
theorem flat_cells:∀ (q:A U) {cs:List Value} {l:List (IntKind×Int)},RC E w St ι [q] cs []->flat q=some l->cs=l.map fun x=>.int x.1 x.2
 | .int k n,cs,l,h,hf=>by
  cases h with
  | int hn=>cases hn;simp only[flat,Option.some.injEq] at hf;subst hf;rfl
 | .agg m,cs,l,h,hf=>flats_cells m h.agg_inv (by simpa[flat] using hf)
 | .none,_,_,_,hf|.bool _,_,_,_,hf|.iv _,_,_,_,hf|.str _,_,_,_,hf|.nilp,_,_,_,hf|.nilf,_,_,_,hf|.arr ..,_,_,_,hf|.nils _,_,_,_,hf|.ro ..,_,_,_,hf|.clip ..,_,_,_,hf|.usl ..,_,_,_,hf
 | .own _,_,_,_,hf|.sub ..,_,_,_,hf|.bsl ..,_,_,_,hf|.ptr ..,_,_,_,hf|.rp ..,_,_,_,hf|.clo ..,_,_,_,hf|.yld _,_,_,_,hf|.tup _,_,_,_,hf|.tr ..,_,_,_,hf|.gh _,_,_,_,hf=>by simp[flat] at hf
theorem flats_cells:∀ (q:List (A U)) {cs:List Value} {l:List (IntKind×Int)},RC E w St ι q cs []->flats q=some l->cs=l.map fun x=>.int x.1 x.2
 | [],cs,l,h,hf=>by cases h;simp only[flats,Option.some.injEq] at hf;subst hf;rfl
 | a::q,cs,l,h,hf=>by
  obtain⟨c1,c2,b1,b2,rfl,hb,h1,h2⟩:=RC.cons_inv h
  obtain⟨rfl,rfl⟩:=nil_or hb
  simp only[flats] at hf
  cases e1:flat a with
  | none=>rw[e1] at hf;cases hf
  | some x=>
   cases e2:flats q with
   | none=>rw[e1,e2] at hf;cases hf
   | some y=>
    rw[e1,e2] at hf
    simp only[Option.some.injEq] at hf
    subst hf
    rw[flat_cells a h1 e1,flats_cells q h2 e2,List.map_append]
end
theorem onceZ_iff{z:Option (List (IntKind×Int))}(h:onceZ z=true):z=some [(.u32,0),(.i32,0),(.u32,0)]:=by
 unfold onceZ at h
 split at h
 ·rfl
 ·cases h
theorem knotBox_inv{g:Int}{v x:A U}(h:knotBox g v=some x):∃ q d l,v=.agg (.agg [q,d]::l)/\onceZ (flat q)=true/\x=.agg (.agg [.gh g,d]::l):=by
 unfold knotBox at h
 split at h
 ·rename_i q d l
  cases hb:onceZ (flat q) with
  | false=>rw[hb] at h;cases h
  | true=>rw[hb] at h;simp only[cond_true,Option.some.injEq] at h;exact⟨q,d,l,rfl,hb,h.symm⟩
 ·cases h
theorem knotBox_rc{g:Int}{v x:A U}(h:knotBox g v=some x){cs:List Value}(hc:RC E w St ι [v] cs []):RC E w St ι [x] cs []:=by
 obtain⟨q,d,l,rfl,h1,rfl⟩:=knotBox_inv h
 obtain⟨c1,c2,b1,b2,rfl,hb,h2,h3⟩:=RC.cons_inv hc.agg_inv
 obtain⟨rfl,rfl⟩:=nil_or hb
 obtain⟨c3,c4,b1,b2,rfl,hb,h4,h5⟩:=RC.cons_inv h2.agg_inv
 obtain⟨rfl,rfl⟩:=nil_or hb
 have:=flat_cells q h4 (onceZ_iff h1)
 subst this
 have k1:RC E w St ι [.gh g,d] (.int .u32 0::.int .i32 0::.int .u32 0::c4) []:=.gh h5
 have k2:RC E w St ι [.agg [.gh g,d]] (.int .u32 0::.int .i32 0::.int .u32 0::c4) []:=by simpa using RC.agg k1 .nil
 have:=RC.agg (RC.cons k2 h3) (.nil (E:=E) (w:=w) (St:=St) (ι:=ι))
 simpa using this
theorem knotBox_get{g g':Int}{v x:A U}(h:knotBox g v=some x):∃ y,knotBox g' v=some y:=by
 obtain⟨q,d,l,rfl,h1,rfl⟩:=knotBox_inv h
 exact⟨.agg (.agg [.gh g',d]::l),by simp[knotBox,h1]⟩
theorem op_knot(ok:EnvOk2 E)(R:Rel E s N a.tmps w ι St)(hb:ι b=none)(hd:isLive (s.h b)=false)(t:TypeId)(x:Operand)(ho:o.op=.box t x)
  (hk:known (s.ev E t x)=true) {g:Int} {y:A U} (hy:knotBox g (s.ev E t x)=some y):Ops E s N a w ι St b o [(b,.box y)] (.ptr b []):=by
 have h:=(ev_ok ok R t x).rv hk
 have hf:=Fr.alloc (fun _=>False) w (.cells (a.eval x).cells t)
 have e:=fresh_ext (v:=some (.pointer (some ⟨w.heap.size,0,.none⟩))) hb hf R.stb
 refine Ops.fresh R hb hd (u:=.pointer (some ⟨w.heap.size,0,.none⟩)) (x:=.pointer (some ⟨w.heap.size,0,.none⟩)) (w':=w.alloc (.cells (a.eval x).cells t)) ?_ hf
  (.inr ⟨w.heap.size,rfl,Nat.le_refl _⟩) ?_ ?_
 ·simp[execOp,ho,Instr.box,newVar,newRow]
 ·refine⟨w.heap.size,(a.eval x).cells.toList,rfl,(knotBox_rc hy h.1).ext e,rangeAt_alloc _ _ _,?_,by simp⟩
  simpa using (there_alloc (q:=True) w (a.eval x).cells t).1
 ·refine RT.of_rv (.mk1 (.ptr (upd_same _ _ _) rfl trivial .nil) rfl rfl)
theorem KP.some{c:Nat}{x:KT (U c)}{p:List Step}{v:Value}(h:KP St c x p v)(hn:x.isNil=false):vp 0 p/\∃ B,v=.pointer (some ⟨B,po p,.none⟩)/\St (.kn c x) B:=by
 rcases h with ⟨rfl,-⟩|⟨-,h⟩
 ·cases hn
 ·exact h
theorem op_fieldAddr_tr(ok:EnvOk2 E)(R:Rel E s N a.tmps w ι St)(t:TypeId)(x:Operand)(k:Nat)(ho:o.op=.fieldAddr t x k){c:Nat}{z:KT (U c)}{p:List Step}(hx:s.ev E 0 x=.tr c z p)
  {fs:List (TypeId×Nat)} {f:TypeId×Nat} (ht:E.ty t=.st fs) (hk:fieldAt fs k=some f) (hz:(Nat.beq (E.sz f.1) 0||isNo (E.ty f.1))=false) (hn:z.isNil=false) :
  Ops E s N a w ι St b o [] (.tr c z (p++[.fld k f.2])):=by
 have h:=ev_ok ok R 0 x
 rw[hx] at h
 obtain⟨h1,B,h2,h3⟩:=(RV.tr_inv h).some hn
 refine Ops.pure R (u:=.pointer (some ⟨B,po p+f.2,.none⟩)) (by simp[execOp,ho,h2,fieldAt_run ok ht hk hz]) (RT.of_rv (.tr (.inr ⟨hn,(vp_append _ _ _).2 ⟨h1,trivial⟩,B,?_,h3⟩)))
 have:po p+f.2=po (p++[.fld k f.2]):=by simp[po_append,po]
 rw[this]
theorem op_nilCheck_tr(ok:EnvOk2 E)(R:Rel E s N a.tmps w ι St)(x:Operand)(ho:o.op=.nilCheck x){c:Nat}{z:KT (U c)}{p:List Step}(hx:s.ev E 0 x=.tr c z p)(hn:z.isNil=false):Ops E s N a w ι St b o [] (.tr c z p):=by
 have h:=ev_ok ok R 0 x
 rw[hx] at h
 obtain⟨h1,B,h2,h3⟩:=(RV.tr_inv h).some hn
 exact Ops.pure R (u:=a.eval x) (by simp[execOp,ho,h2]) h
theorem getP_tr(c:Nat)(z:KT (U c))(q:List Step)(p:List Step)(h:known (getP E (.tr c z q) p)=true):p=[]:=by
 cases p with
 | nil=>rfl
 | cons s p=>cases s<;>simp[getP,known] at h
theorem op_load_tr(ok:EnvOk2 E)(R:Rel E s N a.tmps w ι St)(t:TypeId)(x:Operand)(ho:o.op=.load t x){c:Nat}{z:KT (U c)}{p:List Step}(hx:s.ev E 0 x=.tr c z p)
  (hf:fits E t (getP E (knA E c z) p)=true) (hp:plainK p=true):Ops E s N a w ι St b o [] (getP E (knA E c z) p):=by
 have h:=ev_ok ok R 0 x
 rw[hx] at h
 have hk:=RV.tr_inv h
 have hn:z.isNil=false/\vp 0 p/\∃ B,a.eval x=.pointer (some ⟨B,po p,.none⟩)/\St (.kn c z) B:=by
  rcases hk with ⟨-,rfl,-⟩|h
  ·cases hp
  ·exact h
 obtain⟨hn,hv,B,h1,h2⟩:=hn
 obtain⟨hc,h3⟩:=R.sup.kn _ _ _ h2
 subst hc
 cases z with
 | nil=>cases hn
 | node g v l r=>
 obtain⟨ms,ls,pl,pr,K⟩:=h3
 have key:∃ es,RC E w St ι [getP E (knA E E.kn.c (.node g v l r)) p] es []/\w.rangeAt B (po p) es:=by
  cases p with
  | nil=>cases hp
  | cons st p=>
   cases st with
   | idx _ _ _=>cases hp
   | elt _ _=>cases hp
   | fld k off=>
    cases k with
    | zero=>cases hp
    | succ k=>
     have hkn:=(fits_iff hf).1
     simp only[knA,getP] at hkn ⊢
     cases hb:Nat.beq (sizes E.sz (List.take (k+1) [E.kn.mz,E.enc E.kn.c v,.tr E.kn.c l [],.tr E.kn.c r []])) off with
     | false=>simp only[KT.lf,KT.lt,KT.rt,hb,cond_false,known] at hkn;cases hkn
     | true=>
      simp only[KT.lf,KT.lt,KT.rt,hb,cond_true] at hkn ⊢
      have ho:=Nat.eq_of_beq_eq_true hb
      have hls:=K.leaf.length ok.toEnvOk
      simp only[sizes,ok.encSize,Nat.add_zero] at hls
      have hr:=K.at_
      have sub:∀ q n,w.rangeAt B (ms.length+q) (((ls++[pl,pr]).drop q).take n):=fun q n=>by
       have:=rangeAt_sub hr (ms.length+q) n
       rwa [Nat.zero_add,List.drop_append,List.drop_of_length_le (by omega),List.nil_append,Nat.add_sub_cancel_left] at this
      rcases k with - | - | - | k
      ·
       simp only[nth] at hkn ⊢
       simp only[List.take_succ_cons,List.take_zero,sizes,Nat.add_zero] at ho
       obtain⟨r1,r2⟩:=K.leaf.getP ok.toEnvOk p hv hkn
       have r3:RC E w St ι [getP E (E.enc E.kn.c v) p] _ []:=r1.ext ⟨fun _ _ h=>h,fun _ _ h=>by simp at h,fun _ _=>rfl,Nat.le_refl _⟩
       refine⟨_,r3,?_⟩
       have:=sub (po p) (size E.sz (getP E (E.enc E.kn.c v) p))
       rw[List.drop_append_of_le_length (by omega),List.take_append_of_le_length (by simp;omega)] at this
       simp only[po]
       rwa [<-ho,<-K.len]
      ·simp only[nth] at hkn ⊢
       obtain rfl:=getP_tr _ _ _ _ hkn
       simp only[List.take_succ_cons,List.take_zero,sizes,ok.encSize,Nat.add_zero] at ho
       refine⟨[pl],.tr K.lt .nil,?_⟩
       have:=sub ls.length 1
       rw[List.drop_append,List.drop_of_length_le (by omega),List.nil_append,Nat.sub_self] at this
       simp only[po,Nat.add_zero]
       rw[<-ho,<-K.len,<-hls]
       exact this
      ·simp only[nth] at hkn ⊢
       obtain rfl:=getP_tr _ _ _ _ hkn
       simp only[List.take_succ_cons,List.take_zero,sizes,ok.encSize,Nat.add_zero,size] at ho
       refine⟨[pr],.tr K.rt .nil,?_⟩
       have:=sub (ls.length+1) 1
       rw[List.drop_append,List.drop_of_length_le (by omega),List.nil_append,Nat.add_sub_cancel_left] at this
       simp only[po,Nat.add_zero]
       rw[<-ho,<-K.len,<-hls]
       exact this
      ·simp only[nth,getP_none,known] at hkn;cases hkn
 obtain⟨es,q1,q2⟩:=key
 obtain⟨y,r1,r2⟩:=load_run ok hf q1 q2
 exact Ops.pure R (u:=y) (by simp[execOp,ho,h1,r1]) (RT.of_rv r2)
theorem notin_upds{α:Type}{n:Nat}:∀ (l:List (Nat×α)) (h:Nat->α),memN n (l.map (·.1))=false->upds h l n=h n
 | [],h,_=>rfl
 | (k,z)::l,h,hm=>by
  simp only[List.map_cons,memN,Bool.or_eq_false_iff] at hm
  simp only[upds]
  rw[notin_upds l _ hm.2,upd_ne]
  intro e
  subst e
  simp at hm
theorem op_store_kn(ok:EnvOk2 E)(R:Rel E s N a.tmps w ι St)(t:TypeId)(x y:Operand)(ho:o.op=.store t x y){n:Nat}{p:List Step}(hx:s.ev E 0 x=.ptr n p){q q':A U}(hn:s.h n=.box q)
  (hf:fits E t (kconv E s.h (s.ev E t y)).1=true) (hm:memN n ((kconv E s.h (s.ev E t y)).2.map (·.1))=false) (hp:setP E q p (kconv E s.h (s.ev E t y)).1=some q') :
  Ops E s N a w ι St b o ((kconv E s.h (s.ev E t y)).2++[(n,.box q')]) .none:=by
 obtain⟨St1,x1,g1,R1,l1,k1,-⟩:=kconv_ok ok R (s.ev E t y)
 refine Ops.after (s1:={ s with h:=upds s.h (kconv E s.h (s.ev E t y)).2 }) (St1:=St1) rfl l1 g1 (fun c z B h=>x1.st _ _ h) ?_
 have h1:=(ev_ok ok R 0 x).ext x1
 rw[hx] at h1
 obtain⟨u,B,off,q1,q2,q3,q4⟩:=RV.ptr_inv h1
 have h2:=(k1 _ (ev_ok ok R t y)).rv (fits_iff hf).1
 have hn1:upds s.h (kconv E s.h (s.ev E t y)).2 n=.box q:=by rw[notin_upds _ _ hm,hn]
 have h0:=R1.obj n
 simp only[hn1] at h0
 obtain⟨B',cs,r1,r2,r3,r4,r5⟩:=h0
 rw[q1] at r1
 simp only[Option.some.injEq] at r1
 subst r1
 simp only[base,Option.some.injEq,Prod.mk.injEq] at q2
 obtain⟨rfl,rfl⟩:=q2
 obtain⟨p1,p2,p3,p4,p5⟩:=r2.setP ok.toEnvOk p q3 hp h2.1
 have hrun:=store_run ok hf h2 r4 p2
 rw[Nat.zero_add] at hrun q4
 refine Ops.store R1 hn1 q1 (off:=po p) (ds:=(a.eval y).cells.toList) (nx:=.skip) (u:=undef) ?_ (.inr ⟨rfl,rfl⟩) r5 p1 ?_ ?_ (fun _ _=>trivial)
 ·simp[execOp,ho,q4,hrun]
 ·have:=range_splice (w:=w) (B:=B') (off:=0) (k:=po p) r3 p2
  simpa using this
 ·have hlen:(cs.take (po p)++((a.eval y).cells.toList++cs.drop (po p+(a.eval y).cells.toList.length))).length=cs.length:=by
   simp only[List.length_append,List.length_take,List.length_drop];omega
  rw[hlen]
  exact there_setCells r4
end
end Go.V

set_option linter.unusedVariables false
set_option linter.unusedSimpArgs false
namespace Go.V
variable {U:Nat->Type}
section
variable {E:Env U} {w:World} {St:Ck U->Nat->Prop} {ι:Nat->Option Value} {s:S U} {N:Nat} {a:Act} {b:Nat} {o:Oper}
theorem under_str(ok:EnvOk2 E){t:TypeId}(ht:E.ty t=.str):E.P.underlying t=some .string:=by have:=ok.under t;rw[ht] at this;exact this
theorem under_int(ok:EnvOk2 E){t:TypeId}{k:IntKind}(ht:E.ty t=.int k):E.P.underlying t=some (.int k):=by have:=ok.under t;rw[ht] at this;exact this
theorem RV.iv_inv{x:IV}{v:Value}(h:RV E w St ι (.iv x) v):IVR x v:=by
 have h1:=h.one rfl
 cases h1
 assumption
theorem RV.mkiv{x:IV}{v:Value}(h:IVR x v):RV E w St ι (.iv x:A U) v:=by
 rcases h.shape with rfl|⟨t,u,rfl⟩
 ·exact .mk1 (.iv h .nil) rfl rfl
 ·exact .mk1 (.iv h .nil) rfl rfl
theorem op_slice_str(ok:EnvOk2 E)(R:Rel E s N a.tmps w ι St)(t:TypeId)(x:Operand)(lo hi:Option Operand)(ho:o.op=.slice t x lo hi none){g:ByteArray}(hx:s.ev E t x=.str g)(ht:E.ty t=.str)
  {i j:Int} (h1:optI 0 (lo.map (s.ev E 0))=some i) (h2:optI (g.size:Int) (hi.map (s.ev E 0))=some j) (b0:0<=i) (b1:i<=j) (b2:j<=(g.size:Int)) :
  Ops E s N a w ι St b o [] (.str (g.extract i.toNat j.toNat)):=by
 have h:=ev_ok ok R t x
 rw[hx] at h
 have h:=RV.str_inv h
 have i1:=optI_ok ok R 0 lo h1
 have i2:=optI_ok ok R _ hi h2
 have hb:=bounds_run (E:=E) (w:=w) false g.size g.size (lo.map a.eval) (hi.map a.eval) i j i1 i2 b0 b1 b2 (Nat.le_refl _)
 refine Ops.pure R (u:=.string (g.extract i.toNat j.toNat)) ?_ (RT.of_rv (.mk1 (.str .nil) rfl rfl))
 simp[execOp,ho,h,Instr.sliceAt,Instr.slice,run_underlying (under_str ok ht),hb]
theorem op_iface_int(ok:EnvOk2 E)(R:Rel E s N a.tmps w ι St)(t:TypeId)(x:Operand)(ho:o.op=.makeInterface t x){k:IntKind}{n:Int}(ht:E.ty t=.int k)(hx:s.ev E t x=.int k n) :
  Ops E s N a w ι St b o [] (.iv (.int t k n)):=by
 have h:=ev_ok ok R t x
 rw[hx] at h
 have h:=RV.int_inv h
 refine Ops.pure R (u:=.iface t (.int k n)) ?_ (RT.of_rv (RV.mkiv rfl))
 simp[execOp,ho,h,Instr.makeInterface,run_underlying (under_int ok ht)]
theorem op_iface_str(ok:EnvOk2 E)(R:Rel E s N a.tmps w ι St)(t:TypeId)(x:Operand)(ho:o.op=.makeInterface t x){g:ByteArray}(ht:E.ty t=.str)(hx:s.ev E t x=.str g) :
  Ops E s N a w ι St b o [] (.iv (.str t g)):=by
 have h:=ev_ok ok R t x
 rw[hx] at h
 have h:=RV.str_inv h
 refine Ops.pure R (u:=.iface t (.string g)) ?_ (RT.of_rv (RV.mkiv rfl))
 simp[execOp,ho,h,Instr.makeInterface,run_underlying (under_str ok ht)]
theorem op_assert_int(ok:EnvOk2 E)(R:Rel E s N a.tmps w ι St)(x:Operand)(xt t:TypeId)(ho:o.op=.typeAssert x xt t true){k:IntKind}{v:IV}(ht:E.ty t=.int k)(hx:s.ev E 0 x=.iv v)(hf:v.fitI t k=true) :
  Ops E s N a w ι St b o [] (.tup [.int k (v.getI t),.bool (v.isT t)]):=by
 have h:=ev_ok ok R 0 x
 rw[hx] at h
 have h:=RV.iv_inv h
 have hz:zero E t=.int k 0:=by unfold zero zeroA;rw[ht]
 obtain⟨inf,z,q1,q2,q3⟩:=ok.zer t (by rw[hz];rfl)
 have q3:=q3 w St ι
 rw[hz] at q3
 have q3:=RV.int_inv q3
 subst q3
 have hu:=under_int ok ht
 have fin:∀ (n:Int) (c:Bool),(Instr.typeAssert (a.eval x) xt t true).run E.P w=.ok (.tuple #[.int k n,.bool c]) w->v.getI t=n->v.isT t=c->Ops E s N a w ι St b o [] (.tup [.int k (v.getI t),.bool (v.isT t)]):=by
  intro n c hr e1 e2
  rw[e1,e2]
  refine Ops.pure R (u:=.tuple #[.int k n,.bool c]) ?_ ⟨_,rfl,.inr (.mk1 (.int .nil) rfl rfl),.inr (.mk1 (.bool .nil) rfl rfl),trivial⟩
  simp only[execOp,ho,Sem.run_bind,hr,Result.andThen_ok];rfl
 cases v with
 | nil=>
  have h:a.eval x=.nilIface:=h
  exact fin 0 false (by rw[h];simp[Instr.typeAssert,run_underlying hu,zeroValue,typeInfo,q1,q2]) rfl rfl
 | int t' k' n=>
  have h:a.eval x=.iface t' (.int k' n):=h
  cases hb:Nat.beq t' t with
  | true=>
   have e:=Nat.eq_of_beq_eq_true hb
   subst e
   have ek:k'=k:=by simpa[IV.fitI,hb] using hf
   subst ek
   exact fin n true (by rw[h];simp[Instr.typeAssert,run_underlying hu]) (by simp[IV.getI,hb]) (by simp[IV.isT,hb])
  | false=>
   have e:¬t'=t:=fun e=>by rw[e,Nat.beq_refl] at hb;cases hb
   exact fin 0 false (by rw[h];simp[Instr.typeAssert,run_underlying hu,zeroValue,typeInfo,q1,q2,e]) (by simp[IV.getI,hb]) (by simp[IV.isT,hb])
 | str t' g=>
  have h:a.eval x=.iface t' (.string g):=h
  have hb:Nat.beq t' t=false:=by simpa[IV.fitI] using hf
  have e:¬t'=t:=fun e=>by rw[e,Nat.beq_refl] at hb;cases hb
  exact fin 0 false (by rw[h];simp[Instr.typeAssert,run_underlying hu,zeroValue,typeInfo,q1,q2,e]) (by simp[IV.getI]) (by simp[IV.isT,hb])
 | ref=>simp[IV.fitI] at hf
theorem op_assert_str(ok:EnvOk2 E)(R:Rel E s N a.tmps w ι St)(x:Operand)(xt t:TypeId)(ho:o.op=.typeAssert x xt t true){v:IV}(ht:E.ty t=.str)(hx:s.ev E 0 x=.iv v)(hf:v.fitS t=true) :
  Ops E s N a w ι St b o [] (.tup [.str (v.getS t),.bool (v.isT t)]):=by
 have h:=ev_ok ok R 0 x
 rw[hx] at h
 have h:=RV.iv_inv h
 have hz:zero E t=.str .empty:=by unfold zero zeroA;rw[ht]
 obtain⟨inf,z,q1,q2,q3⟩:=ok.zer t (by rw[hz];rfl)
 have q3:=q3 w St ι
 rw[hz] at q3
 have q3:=RV.str_inv q3
 subst q3
 have hu:=under_str ok ht
 have fin:∀ (n:ByteArray) (c:Bool),(Instr.typeAssert (a.eval x) xt t true).run E.P w=.ok (.tuple #[.string n,.bool c]) w->v.getS t=n->v.isT t=c->Ops E s N a w ι St b o [] (.tup [.str (v.getS t),.bool (v.isT t)]):=by
  intro n c hr e1 e2
  rw[e1,e2]
  refine Ops.pure R (u:=.tuple #[.string n,.bool c]) ?_ ⟨_,rfl,.inr (.mk1 (.str .nil) rfl rfl),.inr (.mk1 (.bool .nil) rfl rfl),trivial⟩
  simp only[execOp,ho,Sem.run_bind,hr,Result.andThen_ok];rfl
 cases v with
 | nil=>
  have h:a.eval x=.nilIface:=h
  exact fin .empty false (by rw[h];simp[Instr.typeAssert,run_underlying hu,zeroValue,typeInfo,q1,q2]) rfl rfl
 | str t' n=>
  have h:a.eval x=.iface t' (.string n):=h
  cases hb:Nat.beq t' t with
  | true=>
   have e:=Nat.eq_of_beq_eq_true hb
   subst e
   exact fin n true (by rw[h];simp[Instr.typeAssert,run_underlying hu]) (by simp[IV.getS,hb]) (by simp[IV.isT,hb])
  | false=>
   have e:¬t'=t:=fun e=>by rw[e,Nat.beq_refl] at hb;cases hb
   exact fin .empty false (by rw[h];simp[Instr.typeAssert,run_underlying hu,zeroValue,typeInfo,q1,q2,e]) (by simp[IV.getS,hb]) (by simp[IV.isT,hb])
 | int t' k' g=>
  have h:a.eval x=.iface t' (.int k' g):=h
  have hb:Nat.beq t' t=false:=by simpa[IV.fitS] using hf
  have e:¬t'=t:=fun e=>by rw[e,Nat.beq_refl] at hb;cases hb
  exact fin .empty false (by rw[h];simp[Instr.typeAssert,run_underlying hu,zeroValue,typeInfo,q1,q2,e]) (by simp[IV.getS]) (by simp[IV.isT,hb])
 | ref=>simp[IV.fitS] at hf
theorem eqIn_nn{t:TypeId}{ms:Array (String×TypeId)}(hu:E.P.underlying t=some (.interface ms))(d:Nat):(Op.equalIn (d+1) t .nilIface .nilIface).run E.P w=.ok true w:=by
 simp[Op.equalIn,run_underlying hu]
theorem eqIn_in{t:TypeId}{ms:Array (String×TypeId)}(hu:E.P.underlying t=some (.interface ms))(d:Nat)(t1:TypeId)(u1:Value):(Op.equalIn (d+1) t (.iface t1 u1) .nilIface).run E.P w=.ok false w:=by
 simp[Op.equalIn,run_underlying hu]
theorem op_ifnil(ok:EnvOk2 E)(R:Rel E s N a.tmps w ι St)(op:BinOp)(t ty:TypeId)(x:Operand)(ho:o.op=.binOp op t x (.const .nilIface) ty)(ht:E.ty t=.ifc){x':IV}(hx:s.ev E t x=.iv x'){v:A U}
  (hv:op=.eql/\v=.bool x'.isNil\/op=.neq/\v=.bool (!x'.isNil)):Ops E s N a w ι St b o [] v:=by
 have h:=ev_ok ok R t x
 rw[hx] at h
 have h:=RV.iv_inv h
 obtain⟨ms,hu⟩:∃ ms,E.P.underlying t=some (.interface ms):=by have:=ok.under t;rw[ht] at this;exact this
 have fin:∀ r:Bool,r=x'.isNil->((eqGuard op t x (.const .nilIface) (a.eval x) .nilIface).run E.P w=.ok () w)->((Op.equalIn (9999+1) t (a.eval x) .nilIface).run E.P w=.ok r w)->(∀ q:Value,binOp .eql t (a.eval x) .nilIface=(do return .bool (<-Op.equal t (a.eval x) .nilIface))/\binOp .neq t (a.eval x) .nilIface=(do return .bool (!(<-Op.equal t (a.eval x) .nilIface)))) →
   ∃ r,r=x'.isNil/\((eqGuard op t x (.const .nilIface) (a.eval x) .nilIface).run E.P w=.ok () w)/\((binOp op t (a.eval x) .nilIface).run E.P w=.ok (.bool (cond (op==.neq) (!r) r)) w):=by
  intro r e1 e2 e3 e4
  refine⟨r,e1,e2,?_⟩
  have e3:(Op.equal t (a.eval x) .nilIface).run E.P w=.ok r w:=e3
  rcases hv with ⟨rfl,-⟩|⟨rfl,-⟩
  ·rw[(e4 .nilIface).1,Sem.run_bind,e3];rfl
  ·rw[(e4 .nilIface).2,Sem.run_bind,e3];rfl
 have key:∃ r,r=x'.isNil/\((eqGuard op t x (.const .nilIface) (a.eval x) .nilIface).run E.P w=.ok () w)/\((binOp op t (a.eval x) .nilIface).run E.P w=.ok (.bool (cond (op==.neq) (!r) r)) w):=by
  rcases hs:x'.isNil with _|_
  ·have:∃ t u,a.eval x=.iface t u:=by
    cases x' with
    | nil=>cases hs
    | int t k n=>exact⟨_,_,h⟩
    | str t g=>exact⟨_,_,h⟩
    | ref=>exact h
   obtain⟨t1,u1,e⟩:=this
   rw[hs] at fin
   rw[e] at fin ⊢
   refine fin false rfl ?_ (eqIn_in hu 9999 _ _) fun _=>⟨rfl,rfl⟩
   rcases hv with ⟨rfl,-⟩|⟨rfl,-⟩<;>simp[eqGuard]
  ·have e:a.eval x=.nilIface:=by cases x'<;>first|exact h|(simp[IV.isNil] at hs)
   rw[hs] at fin
   rw[e] at fin ⊢
   refine fin true rfl ?_ (eqIn_nn hu 9999) fun _=>⟨rfl,rfl⟩
   rcases hv with ⟨rfl,-⟩|⟨rfl,-⟩<;>simp[eqGuard]
 obtain⟨r,rfl,g1,g2⟩:=key
 have e0:a.eval (.const .nilIface)=.nilIface:=rfl
 rcases hv with ⟨rfl,rfl⟩|⟨rfl,rfl⟩
 ·exact Ops.pure R (u:=.bool x'.isNil) (by simp only[execOp,ho,e0,Sem.run_bind,g1,Result.andThen_ok,g2];rfl) (RT.of_rv (.mk1 (.bool .nil) rfl rfl))
 ·exact Ops.pure R (u:=.bool (!x'.isNil)) (by simp only[execOp,ho,e0,Sem.run_bind,g1,Result.andThen_ok,g2];rfl) (RT.of_rv (.mk1 (.bool .nil) rfl rfl))
end
end Go.V

set_option linter.unusedVariables false
set_option linter.unusedSimpArgs false
namespace Go.V
variable {U:Nat->Type}
section
variable {E:Env U} {w:World} {St:Ck U->Nat->Prop} {ι:Nat->Option Value} {s:S U} {N:Nat} {a:Act} {b:Nat} {o:Oper}
theorem cond_done{c:Bool}{p:Plan U}{pre rd wr v}(h:cond c p .bad=.done pre rd wr v):c=true/\p=.done pre rd wr v:=by
 cases c
 ·simp at h
 ·exact⟨rfl,h⟩
theorem cond_done'{c:Bool}{p:Plan U}{pre rd wr v}(h:cond c .bad p=.done pre rd wr v):c=false/\p=.done pre rd wr v:=by
 cases c
 ·exact⟨rfl,h⟩
 ·simp at h
theorem plan_call(ok:EnvOk2 E)(R:Rel E s N a.tmps w ι St)(hb:ι b=none)(hd:isLive (s.h b)=false){c:Call}(hop:o.op=.call c){pre rd wr v}(hp:callV E s b c=.done pre rd wr v)(hq:∀ p,pre=some p->p):Ops E s N a w ι St b o wr v:=by
 unfold callV at hp
 cases hc:c.callee with
 | value f=>
  exfalso
  revert hp
  simp only[hc,Bool.cond_eq_ite]
  intro hp
  (repeat' split at hp)<;>cases hp
 | invoke r m=>simp only[hc] at hp;simp at hp
 | builtin bi=>
  simp only[hc] at hp
  cases bi<;>first|(simp at hp;done)|skip
  case append=>
   dsimp only at hp
   split at hp
   ·rename_i x y t u h1 h2
    unfold appendV at hp
    split at hp
    ··rename_i q hcont
      have hsrc:=srcV_ok ok R (ev_ok ok R u y) hcont
      cases hx:s.ev E t x with
      | nils k=>
       simp only[hx] at hp
       have hp2:=cond_done hp
       clear hp
       obtain⟨g1,hp⟩:=hp2
       split at hp
       ·rename_i hqc
        obtain⟨qr,qc,ql⟩:=q
        simp only at hqc
        subst hqc
        simp only[Plan.done.injEq] at hp
        obtain⟨rfl,-,rfl,rfl⟩:=hp
        exact op_append_nils ok R hb hd hc hop h1 h2 g1 hx hsrc (hq _ rfl)
       ·simp at hp
      | clip g k lx=>
       simp only[hx] at hp
       have hp2:=cond_done hp
       clear hp
       obtain⟨g1,hp⟩:=hp2
       split at hp
       ·rename_i hqc
        obtain⟨qr,qc,ql⟩:=q
        simp only at hqc
        subst hqc
        simp only[Plan.done.injEq] at hp
        obtain⟨rfl,-,rfl,rfl⟩:=hp
        exact op_append_clip ok R hb hd hc hop h1 h2 g1 hx hsrc (hq _ rfl).1 (hq _ rfl).2
       ·simp at hp
      | own m=>
       simp only[hx] at hp
       cases hm:s.h m with
       | lst k lx=>
        simp only[hm] at hp
        have hp2:=cond_done hp
        clear hp
        obtain⟨g1,hp⟩:=hp2
        split at hp
        ·rename_i hqc
         obtain⟨qr,qc,ql⟩:=q
         simp only at hqc
         subst hqc
         simp only[Plan.done.injEq] at hp
         obtain⟨rfl,-,rfl,rfl⟩:=hp
         exact op_append_own ok R hb hd hc hop h1 h2 g1 hx hm hsrc (hq _ rfl)
        ·simp at hp
       | _=>simp[hm] at hp
      | _=>simp[hx] at hp
    ·simp at hp
   ·simp at hp
  case copy=>
   dsimp only at hp
   split at hp
   ·rename_i x y t u h1 h2
    unfold copyV at hp
    split at hp
    ·rename_i e cq m p c n i len hte hcq hx
     split at hp
     ·rename_i q hm
      split at hp
      ·rename_i c' n' l hg
       split at hp
       ·rename_i hcc
        have hp2:=cond_done hp
        clear hp
        obtain⟨h3,hp⟩:=hp2
        simp only[Bool.and_eq_true] at h3
        obtain⟨h3,h4,h5⟩:=h3
        have h4:=Nat.eq_of_beq_eq_true h4
        have h5:=Nat.eq_of_beq_eq_true h5
        subst h5
        subst h4
        split at hp
        ·rename_i a' hs
         simp only[Plan.done.injEq] at hp
         obtain⟨rfl,-,rfl,rfl⟩:=hp
         have e1:cq.l.length=(hcc▸cq.l:List (U c)).length:=by
          obtain⟨qr,qc,ql⟩:=cq
          simp only at hcc
          subst hcc
          rfl
         rw[e1] at hs ⊢
         exact op_copy ok R hc hop h1 h2 hx h3 hm hg hcq ⟨hcc,rfl⟩ hs
        ·simp at hp
       ·simp at hp
      ·simp at hp
     ·simp at hp
    ·simp at hp
   ·simp at hp
  case max=>
   dsimp only at hp
   split at hp
   ·rename_i k n hf
    simp only[Plan.done.injEq] at hp
    obtain⟨rfl,-,rfl,rfl⟩:=hp
    exact op_fold ok R hop (.inl ⟨hc,hf⟩)
   ·simp at hp
  case min=>
   dsimp only at hp
   split at hp
   ·rename_i k n hf
    simp only[Plan.done.injEq] at hp
    obtain⟨rfl,-,rfl,rfl⟩:=hp
    exact op_fold ok R hop (.inr ⟨hc,hf⟩)
   ·simp at hp
  case len=>
   dsimp only at hp
   split at hp
   ·rename_i x t r h1 h2
    have hw:wr=[]/\pre=none:=by
     unfold lenV at hp
     repeat' split at hp
     all_goals simp at hp
     all_goals exact⟨hp.2.2.1.symm▸rfl,hp.1.symm▸rfl⟩
    obtain⟨rfl,rfl⟩:=hw
    exact op_len ok R hc hop h1 (by rw[h2];rfl) (by rw[h2];simp) hp
   ·simp at hp
theorem eqP_form(op:BinOp)(r:Option Bool):eqP (U:=U) op r=.bad\/∃ c,eqP (U:=U) op r=.done none [] [] (.bool c):=by
 cases r with
 | none=>exact .inl rfl
 | some r=>cases op<;>first|exact .inl rfl|exact .inr ⟨_,rfl⟩
theorem eqP_any{op:BinOp}{r:Option Bool}{q:Prop}{rd:List Nat}{neg:Bool}:eqP (U:=U) op r≠.any q rd neg:=by
 rcases eqP_form (U:=U) op r with h|⟨c,h⟩<;>rw[h]<;>simp
theorem eqP_call{op:BinOp}{r:Option Bool}{f:FuncId}{args:List (A U)}{look:List Nat}:eqP (U:=U) op r≠.call f args look:=by
 rcases eqP_form (U:=U) op r with h|⟨c,h⟩<;>rw[h]<;>simp
theorem eqP_yield{op:BinOp}{r:Option Bool}{n:Nat}{f:FuncId}{id:Nat}{vals args:List (A U)}{look:List Nat}:eqP (U:=U) op r≠.yield n f id vals args look:=by
 rcases eqP_form (U:=U) op r with h|⟨c,h⟩<;>rw[h]<;>simp
theorem nilV_done{op:BinOp}{t:TypeId}{u:A U}{c:Nat}{y:Operand}{pre rd wr v}:nilV E s op t u c y≠.done pre rd wr v:=by
 unfold nilV
 simp only[Bool.cond_eq_ite]
 intro h
 (repeat' split at h)<;>cases h
theorem plan_slice(ok:EnvOk2 E)(R:Rel E s N a.tmps w ι St){t:TypeId}{x:Operand}{lo hi mx:Option Operand}(hop:o.op=.slice t x lo hi mx){pre rd wr v}(hp:sliceV E s t (s.ev E t x) (lo.map (s.ev E 0)) (hi.map (s.ev E 0)) (mx.map (s.ev E 0))=.done pre rd wr v)(hq:∀ p,pre=some p->p):Ops E s N a w ι St b o wr v:=by
 unfold sliceV at hp
 split at hp
 ·rename_i g c l hx hm
  have hmx:mx=none:=by cases mx with|none=>rfl|some m=>simp at hm
  subst hmx
  have hp2:=cond_done hp
  clear hp
  obtain⟨ht,hp⟩:=hp2
  split at hp
  ·rename_i hlo hhi
   simp only[Plan.done.injEq] at hp
   obtain⟨rfl,-,rfl,rfl⟩:=hp
   have:=op_slice_ro (b:=b) ok R t x lo hi hop hx ht (i:=0) (j:=(l.length:Int)) (by rw[hlo];rfl) (by rw[hhi];rfl) (by omega) (by omega) (by omega)
   rw[show cut l (0:Int).toNat ((l.length:Int)-0).toNat=l by simp[cut]] at this
   exact this
  ·rename_i k i hlo hhi
   simp only[Plan.done.injEq] at hp
   obtain⟨rfl,-,rfl,rfl⟩:=hp
   obtain⟨q1,q2⟩:=hq _ rfl
   have:=op_slice_ro (b:=b) ok R t x lo hi hop hx ht (i:=i) (j:=(l.length:Int)) (by rw[hlo];rfl) (by rw[hhi];rfl) q1 q2 (by omega)
   rw[show ((l.length:Int)-i).toNat=l.length-i.toNat by omega,cut_to_end] at this
   exact this
  ·rename_i k j hlo hhi
   simp only[Plan.done.injEq] at hp
   obtain⟨rfl,-,rfl,rfl⟩:=hp
   obtain⟨q1,q2⟩:=hq _ rfl
   have:=op_slice_ro (b:=b) ok R t x lo hi hop hx ht (i:=0) (j:=j) (by rw[hlo];rfl) (by rw[hhi];rfl) (by omega) q1 q2
   rw[show cut l (0:Int).toNat (j-0).toNat=l.take j.toNat by simp[cut]] at this
   exact this
  ·rename_i k i k' j hlo hhi
   simp only[Plan.done.injEq] at hp
   obtain⟨rfl,-,rfl,rfl⟩:=hp
   obtain⟨q1,q2,q3⟩:=hq _ rfl
   exact op_slice_ro ok R t x lo hi hop hx ht (i:=i) (j:=j) (by rw[hlo];rfl) (by rw[hhi];rfl) q1 q2 q3
  ·cases hp
 ·rename_i g c l k m hx hm
  obtain⟨mx',rfl,hmx⟩:∃ m',mx=some m'/\s.ev E 0 m'=.int k m:=by
   cases mx with
   | none=>simp at hm
   | some m'=>exact⟨m',rfl,by simpa using hm⟩
  have hp2:=cond_done hp
  clear hp
  obtain⟨ht,hp⟩:=hp2
  split at hp
  ·rename_i k' j i hhi hlo
   obtain⟨hi',rfl,hhi'⟩:∃ h',hi=some h'/\s.ev E 0 h'=.int k' j:=by
    cases hi with
    | none=>simp at hhi
    | some h'=>exact⟨h',rfl,by simpa using hhi⟩
   simp only[Plan.done.injEq] at hp
   obtain⟨rfl,-,rfl,rfl⟩:=hp
   obtain⟨q1,q2,q3,q4⟩:=hq _ rfl
   exact op_slice_clip ok R t x lo hi' mx' hop hx ht hlo hhi' (by rw[hmx,q3]) q1 q2 q4
  ·cases hp
 ·rename_i g c l i p hx hm
  have hmx:mx=none:=by cases mx with|none=>rfl|some m=>simp at hm
  subst hmx
  split at hp
  ·rename_i n e ht hlo hhi
   have hlo':lo=none:=by cases lo with|none=>rfl|some m=>simp at hlo
   have hhi':hi=none:=by cases hi with|none=>rfl|some m=>simp at hhi
   subst hlo';subst hhi'
   split at hp
   ·rename_i e' n' r hr
    have hp2:=cond_done hp
    clear hp
    obtain⟨h1,hp⟩:=hp2
    simp only[Bool.and_eq_true,Bool.not_eq_true'] at h1
    have e1:=Nat.eq_of_beq_eq_true h1.1
    have e2:=Nat.eq_of_beq_eq_true h1.2.1
    subst e1;subst e2
    simp only[Plan.done.injEq] at hp
    obtain⟨rfl,-,rfl,rfl⟩:=hp
    exact op_slice_rp ok R t x hop hx ht h1.2.2 hr
   ·cases hp
  ·cases hp
 ·rename_i m hx hm
  have hmx:mx=none:=by cases mx with|none=>rfl|some m=>simp at hm
  subst hmx
  split at hp
  ·rename_i c l hl
   have hp2:=cond_done hp
   clear hp
   obtain⟨h1,hp⟩:=hp2
   split at hp
   ·rename_i i j hlo hhi
    simp only[Plan.done.injEq] at hp
    obtain⟨rfl,-,rfl,rfl⟩:=hp
    obtain⟨q1,q2,q3⟩:=hq _ rfl
    exact op_slice_own ok R t x lo hi hop hx (.inl hl) h1 hlo hhi q1 q2 q3
   ·cases hp
  ·rename_i c l hl
   have hp2:=cond_done hp
   clear hp
   obtain⟨h1,hp⟩:=hp2
   split at hp
   ·rename_i i j hlo hhi
    simp only[Plan.done.injEq] at hp
    obtain⟨rfl,-,rfl,rfl⟩:=hp
    obtain⟨q1,q2,q3⟩:=hq _ rfl
    exact op_slice_own ok R t x lo hi hop hx (.inr hl) h1 hlo hhi q1 q2 q3
   ·cases hp
  ·cases hp
 ·rename_i m c k len hx hm
  have hmx:mx=none:=by cases mx with|none=>rfl|some m=>simp at hm
  subst hmx
  split at hp
  ·rename_i c' l hl
   have hp2:=cond_done hp
   clear hp
   obtain⟨h1,hp⟩:=hp2
   simp only[Bool.and_eq_true] at h1
   have e1:=Nat.eq_of_beq_eq_true h1.2
   subst e1
   split at hp
   ·rename_i i j hlo hhi
    simp only[Plan.done.injEq] at hp
    obtain⟨rfl,-,rfl,rfl⟩:=hp
    obtain⟨q1,q2,q3⟩:=hq _ rfl
    exact op_slice_sub ok R t x lo hi hop hx hl h1.1 hlo hhi q1 q2 q3
   ·cases hp
  ·cases hp
 ·rename_i g hx hm
  have hmx:mx=none:=by cases mx with|none=>rfl|some m=>simp at hm
  subst hmx
  split at hp
  ·rename_i i j ht hlo hhi
   simp only[Plan.done.injEq] at hp
   obtain⟨rfl,-,rfl,rfl⟩:=hp
   obtain⟨q1,q2,q3⟩:=hq _ rfl
   exact op_slice_str ok R t x lo hi hop hx ht hlo hhi q1 q2 q3
  ·cases hp
 ·rename_i m p hx hm
  have hmx:mx=none:=by cases mx with|none=>rfl|some m=>simp at hm
  subst hmx
  split at hp
  ·rename_i n e q i ht hbox hlo
   split at hp
   ·rename_i j hhi
    have hp2:=cond_done' hp
    clear hp
    obtain⟨h1,hp⟩:=hp2
    simp only[Plan.done.injEq] at hp
    obtain⟨rfl,-,rfl,rfl⟩:=hp
    obtain⟨q1,q2,q3⟩:=hq _ rfl
    exact op_slice_box ok R t x lo hi hop hx hbox ht h1 hlo hhi q1 q2 q3
   ·cases hp
  ·cases hp
 ·cases hp
theorem plan_sound(ok:EnvOk2 E)(R:Rel E s N a.tmps w ι St)(hb:ι b=none)(hd:isLive (s.h b)=false){pre rd wr v}(hp:plan E b o s=.done pre rd wr v)(hq:∀ p,pre=some p->p):Ops E s N a w ι St b o wr v:=by
 cases hop:o.op with
 | move x=>
  simp only[plan,hop,Plan.done.injEq] at hp
  obtain⟨-,-,rfl,rfl⟩:=hp
  exact op_move ok R x (.inl hop)
 | assign x=>
  simp only[plan,hop,Plan.done.injEq] at hp
  obtain⟨-,-,rfl,rfl⟩:=hp
  exact op_move ok R x (.inr hop)
 | pick c x y=>
  simp only[plan,hop] at hp
  cases hc:s.ev E 0 c with
  | bool q=>
   simp only[hc,Plan.done.injEq] at hp
   obtain⟨-,-,rfl,rfl⟩:=hp
   exact op_pick ok R c x y hop hc
  | _=>simp[hc] at hp
 | alloc t=>
  simp only[plan,hop] at hp
  have hk:known (zero E t)=true/\Plan.done none [] [(b,.box (zero E t))] (.ptr b [])=.done pre rd wr v:=by
   split at hp
   ·simp at hp
   ·rename_i hz
    refine⟨?_,hp⟩
    simp only[zero] at hz ⊢
    cases ht:E.ty t<;>simp[zeroA,ht,known] at hz ⊢
    cases Nat.beq t E.kn.kp<;>rfl
  simp only[Plan.done.injEq] at hk
  obtain⟨hk,-,-,rfl,rfl⟩:=hk
  exact op_alloc ok R hb hd t hop hk
 | box t x=>
  simp only[plan,hop] at hp
  have hp2:=cond_done hp
  clear hp
  obtain⟨h1,hp⟩:=hp2
  cases hks:Nat.beq t E.kn.ks with
  | true=>rw[hks] at hp;cases hp
  | false=>
  rw[hks] at hp
  simp only[cond_false,Plan.done.injEq] at hp
  obtain⟨-,-,rfl,rfl⟩:=hp
  exact op_box ok R hb hd t x hop (fits_iff h1).1
 | load t x=>
  simp only[plan,hop] at hp
  cases hx:s.ev E 0 x with
  | ptr n p=>
   simp only[hx] at hp
   have hp2:=cond_done hp
   clear hp
   obtain⟨h1,hp⟩:=hp2
   simp only[Plan.done.injEq] at hp
   obtain⟨-,-,rfl,rfl⟩:=hp
   exact op_load ok R t x hop hx h1
  | rp g c l i p=>
   simp only[hx] at hp
   have hp2:=cond_done hp
   clear hp
   obtain⟨h1,hp⟩:=hp2
   simp only[Plan.done.injEq] at hp
   obtain⟨-,-,rfl,rfl⟩:=hp
   exact op_load_rp ok R t x hop hx h1
  | tr c z p=>
   simp only[hx] at hp
   have hp2:=cond_done hp
   clear hp
   obtain⟨h1,hp⟩:=hp2
   simp only[Bool.and_eq_true] at h1
   simp only[Plan.done.injEq] at hp
   obtain⟨-,-,rfl,rfl⟩:=hp
   exact op_load_tr ok R t x hop hx h1.1 h1.2.1
  | _=>simp[hx] at hp
 | store t x y=>
  simp only[plan,hop] at hp
  cases hx:s.ev E 0 x with
  | ptr n p=>
   simp only[hx] at hp
   cases hn:s.h n with
   | box q=>
    simp only[hn] at hp
    have hp2:=cond_done hp
    clear hp
    obtain⟨h1,hp⟩:=hp2
    simp only[Bool.and_eq_true,Bool.not_eq_true'] at h1
    cases hs:setP E q p (kconv E s.h (s.ev E t y)).1 with
    | none=>simp[hs] at hp
    | some q'=>
     simp only[hs,Plan.done.injEq] at hp
     obtain⟨-,-,rfl,rfl⟩:=hp
     exact op_store_kn ok R t x y hop hx hn h1.1 h1.2 hs
   | lst c l=>
    simp only[hn] at hp
    have hp2:=cond_done hp
    clear hp
    obtain⟨h1,hp⟩:=hp2
    simp only[Bool.and_eq_true,Bool.not_eq_true'] at h1
    cases hs:setO E (.lst c l) p (frz s.h (s.ev E t y)) with
    | none=>simp[hs] at hp
    | some o'=>
     simp only[hs,Plan.done.injEq] at hp
     obtain⟨-,-,rfl,rfl⟩:=hp
     exact op_store_lst ok R t x y hop hx hn h1.1.1 h1.1.2 h1.2 hs
   | _=>simp[hn] at hp
  | _=>simp[hx] at hp
 | fieldAddr t x k=>
  simp only[plan,hop] at hp
  cases hx:s.ev E 0 x with
  | ptr n p=>
   cases ht:E.ty t with
   | st fs=>
    simp only[hx,ht] at hp
    cases hf:fieldAt fs k with
    | none=>simp[hf] at hp
    | some f=>
     simp only[hf] at hp
     have hp2:=cond_done' hp
     clear hp
     obtain⟨h1,hp⟩:=hp2
     simp only[Plan.done.injEq] at hp
     obtain⟨-,-,rfl,rfl⟩:=hp
     exact op_fieldAddr ok R t x k hop hx ht hf h1
   | _=>simp[hx,ht] at hp
  | rp g c l i p=>
   cases ht:E.ty t with
   | st fs=>
    simp only[hx,ht] at hp
    cases hf:fieldAt fs k with
    | none=>simp[hf] at hp
    | some f=>
     simp only[hf] at hp
     have hp2:=cond_done' hp
     clear hp
     obtain⟨h1,hp⟩:=hp2
     simp only[Plan.done.injEq] at hp
     obtain⟨-,-,rfl,rfl⟩:=hp
     exact op_fieldAddr_rp ok R t x k hop hx ht hf h1
   | _=>simp[hx,ht] at hp
  | tr c z p=>
   cases ht:E.ty t with
   | st fs=>
    simp only[hx,ht] at hp
    cases hf:fieldAt fs k with
    | none=>simp[hf] at hp
    | some f=>
     simp only[hf] at hp
     have hp2:=cond_done' hp
     clear hp
     obtain⟨h1,hp⟩:=hp2
     simp only[Plan.done.injEq] at hp
     obtain⟨rfl,-,rfl,rfl⟩:=hp
     exact op_fieldAddr_tr ok R t x k hop hx ht hf h1 (hq _ rfl)
   | _=>simp[hx,ht] at hp
  | _=>simp[hx] at hp
 | field t x k=>
  simp only[plan,hop] at hp
  cases hx:s.ev E 0 x with
  | agg l=>
   cases ht:E.ty t with
   | st fs=>
    simp only[hx,ht] at hp
    cases hf:fieldAt fs k with
    | none=>simp[hf] at hp
    | some f=>
     simp only[hf] at hp
     have hp2:=cond_done hp
     clear hp
     obtain⟨h1,hp⟩:=hp2
     simp only[Plan.done.injEq] at hp
     obtain⟨-,-,rfl,rfl⟩:=hp
     exact op_field ok R t x k hop hx ht hf h1
   | _=>simp[hx,ht] at hp
  | _=>simp[hx] at hp
 | indexAddr t x i=>
  simp only[plan,hop] at hp
  cases hi:s.ev E 0 i with
  | int k n=>
   simp only[hi] at hp
   cases hx:s.ev E t x with
   | own m=>
    simp only[hx] at hp
    cases hm:s.h m with
    | lst c l=>
     simp only[hm] at hp
     have hp2:=cond_done hp
     clear hp
     obtain⟨h1,hp⟩:=hp2
     simp only[Plan.done.injEq] at hp
     obtain⟨rfl,-,rfl,rfl⟩:=hp
     exact op_index_own ok R t x i hop hi hx (.inl hm) h1 (hq _ rfl).1 (hq _ rfl).2
    | fz c l=>
     simp only[hm] at hp
     have hp2:=cond_done hp
     clear hp
     obtain⟨h1,hp⟩:=hp2
     simp only[Plan.done.injEq] at hp
     obtain⟨rfl,-,rfl,rfl⟩:=hp
     exact op_index_own ok R t x i hop hi hx (.inr hm) h1 (hq _ rfl).1 (hq _ rfl).2
    | _=>simp[hm] at hp
   | ro g c l=>
    simp only[hx] at hp
    have hp2:=cond_done hp
    clear hp
    obtain⟨h1,hp⟩:=hp2
    simp only[Plan.done.injEq] at hp
    obtain⟨rfl,-,rfl,rfl⟩:=hp
    exact op_index_ro ok R t x i hop hi (.inl hx) h1 (hq _ rfl).1 (hq _ rfl).2
   | clip g c l=>
    simp only[hx] at hp
    have hp2:=cond_done hp
    clear hp
    obtain⟨h1,hp⟩:=hp2
    simp only[Plan.done.injEq] at hp
    obtain⟨rfl,-,rfl,rfl⟩:=hp
    exact op_index_ro ok R t x i hop hi (.inr hx) h1 (hq _ rfl).1 (hq _ rfl).2
   | sub m c j len=>
    simp only[hx] at hp
    cases hm:s.h m with
    | lst c' l=>
     simp only[hm] at hp
     have hp2:=cond_done hp
     clear hp
     obtain⟨h1,hp⟩:=hp2
     simp only[Bool.and_eq_true] at h1
     have:=Nat.eq_of_beq_eq_true h1.2
     subst this
     simp only[Plan.done.injEq] at hp
     obtain⟨rfl,-,rfl,rfl⟩:=hp
     exact op_index_sub ok R t x i hop hi hx (.inl hm) h1.1 (hq _ rfl).1 (hq _ rfl).2
    | fz c' l=>
     simp only[hm] at hp
     have hp2:=cond_done hp
     clear hp
     obtain⟨h1,hp⟩:=hp2
     simp only[Bool.and_eq_true] at h1
     have:=Nat.eq_of_beq_eq_true h1.2
     subst this
     simp only[Plan.done.injEq] at hp
     obtain⟨rfl,-,rfl,rfl⟩:=hp
     exact op_index_sub ok R t x i hop hi hx (.inr hm) h1.1 (hq _ rfl).1 (hq _ rfl).2
    | _=>simp[hm] at hp
   | bsl m p c M j len=>
    simp only[hx] at hp
    have hp2:=cond_done hp
    clear hp
    obtain⟨h1,hp⟩:=hp2
    simp only[Plan.done.injEq] at hp
    obtain⟨rfl,-,rfl,rfl⟩:=hp
    exact op_index_bsl ok R t x i hop hi hx h1 (hq _ rfl).1 (hq _ rfl).2
   | ptr m p=>
    simp only[hx] at hp
    cases ht:E.ty t with
    | arr L e=>
     (try simp only[ht] at hp)
     have hp2:=cond_done' hp
     clear hp
     obtain⟨h1,hp⟩:=hp2
     simp only[Plan.done.injEq] at hp
     obtain⟨rfl,-,rfl,rfl⟩:=hp
     exact op_index_arr ok R t x i hop hi hx ht h1 (hq _ rfl).1 (hq _ rfl).2
    | _=>simp[ht] at hp
   | rp g c l j p=>
    simp only[hx] at hp
    cases ht:E.ty t with
    | arr L e=>
     (try simp only[ht] at hp)
     have hp2:=cond_done' hp
     clear hp
     obtain⟨h1,hp⟩:=hp2
     simp only[Plan.done.injEq] at hp
     obtain⟨rfl,-,rfl,rfl⟩:=hp
     exact op_index_rparr ok R t x i hop hi hx ht h1 (hq _ rfl).1 (hq _ rfl).2
    | _=>simp[ht] at hp
   | _=>simp[hx] at hp
  | _=>simp[hi] at hp
 | index t x i=>
  simp only[plan,hop] at hp
  cases hi:s.ev E 0 i with
  | int k n=>
   cases hx:s.ev E t x with
   | arr c M l=>
    simp only[hi,hx] at hp
    cases ht:E.ty t with
    | arr M' c'=>
     (try simp only[ht] at hp)
     have hp2:=cond_done hp
     clear hp
     obtain⟨h1,hp⟩:=hp2
     simp only[Bool.and_eq_true] at h1
     have e1:=Nat.eq_of_beq_eq_true h1.1
     have e2:=Nat.eq_of_beq_eq_true h1.2.1
     subst e1;subst e2
     simp only[Plan.done.injEq] at hp
     obtain⟨rfl,-,rfl,rfl⟩:=hp
     exact op_index_val ok R t x i hop hi hx ht h1.2.2 (hq _ rfl).1 (hq _ rfl).2
    | _=>simp[ht] at hp
   | str g=>
    simp only[hi,hx] at hp
    cases ht:E.ty t with
    | str=>
     simp only[ht,Plan.done.injEq] at hp
     obtain⟨rfl,-,rfl,rfl⟩:=hp
     exact op_index_str ok R t x i hop hi hx ht (hq _ rfl).1 (hq _ rfl).2
    | _=>simp[ht] at hp
   | _=>simp[hi,hx] at hp
  | _=>simp[hi] at hp
 | binOp op t x y ty=>
  simp only[plan,hop] at hp
  have eqd:cond (plainTy (E.ty t)) .bad (eqP op (eqV E 20 t (s.ev E t x) (s.ev E ty y)))=.done pre rd wr v->Ops E s N a w ι St b o wr v:=by
   intro hp
   obtain⟨h1,hp⟩:=cond_done' hp
   cases he:eqV E 20 t (s.ev E t x) (s.ev E ty y) with
   | none=>rw[he] at hp;simp[eqP] at hp
   | some r=>
    rw[he] at hp
    cases op<;>first|(simp[eqP] at hp;done)|skip
    ·simp only[eqP,Plan.done.injEq] at hp
     obtain⟨rfl,-,rfl,rfl⟩:=hp
     exact op_eq ok R _ t ty x y hop h1 he (.inl ⟨rfl,rfl⟩)
    ·simp only[eqP,Plan.done.injEq] at hp
     obtain⟨rfl,-,rfl,rfl⟩:=hp
     exact op_eq ok R _ t ty x y hop h1 he (.inr ⟨rfl,rfl⟩)
  cases hx:s.ev E t x with
  | int k n=>
   cases hy:s.ev E ty y with
   | int k' m=>
    simp only[hx,hy] at hp
    cases op with
    | shl=>
     simp only[Plan.done.injEq] at hp
     obtain⟨rfl,-,rfl,rfl⟩:=hp
     exact op_shift ok R _ t ty x y hop hx hy (hq _ rfl) (.inl ⟨rfl,rfl⟩)
    | shr=>
     simp only[Plan.done.injEq] at hp
     obtain⟨rfl,-,rfl,rfl⟩:=hp
     exact op_shift ok R _ t ty x y hop hx hy (hq _ rfl) (.inr ⟨rfl,rfl⟩)
    | _=>
     dsimp only at hp
     have hp2:=cond_done hp
     clear hp
     obtain⟨h1,hp⟩:=hp2
     have h1:=of_decide_eq_true h1
     subst h1
     split at hp
     ·rename_i q u hio
      simp only[Plan.done.injEq] at hp
      obtain⟨rfl,-,rfl,rfl⟩:=hp
      exact op_int ok R _ t ty x y hop hx hy hio hq
     ·simp at hp
   | nils c=>simp only[hx,hy] at hp;exact absurd hp nilV_done
   | _=>simp only[hx,hy] at hp;exact eqd (by rw[hx,hy];exact hp)
  | str g=>
   cases hy:s.ev E ty y with
   | str g'=>
    simp only[hx,hy] at hp
    split at hp
    ·rename_i q u hio
     simp only[Plan.done.injEq] at hp
     obtain⟨rfl,-,rfl,rfl⟩:=hp
     exact op_str ok R _ t ty x y hop hx hy hio hq
    ·simp at hp
   | nils c=>simp only[hx,hy] at hp;exact absurd hp nilV_done
   | _=>simp only[hx,hy] at hp;exact eqd (by rw[hx,hy];exact hp)
  | bool p=>
   cases hy:s.ev E ty y with
   | bool q=>
    simp only[hx,hy] at hp
    split at hp
    ·rename_i ht
     simp only[Plan.done.injEq] at hp
     obtain⟨rfl,-,rfl,rfl⟩:=hp
     exact op_eq_bool ok R _ t ty x y hop ht hx hy (.inl ⟨rfl,rfl⟩)
    ·rename_i ht
     simp only[Plan.done.injEq] at hp
     obtain⟨rfl,-,rfl,rfl⟩:=hp
     exact op_eq_bool ok R _ t ty x y hop ht hx hy (.inr ⟨rfl,rfl⟩)
    ·simp at hp
   | nils c=>simp only[hx,hy] at hp;exact absurd hp nilV_done
   | _=>simp only[hx,hy] at hp;exact eqd (by rw[hx,hy];exact hp)
  | iv z=>
   cases hy:s.ev E ty y with
   | iv z'=>
    cases z' with
    | nil=>
     simp only[hx,hy] at hp
     split at hp
     ·rename_i ht
      cases op<;>first|(simp[eqP] at hp;done)|skip
      ·simp only[eqP,Plan.done.injEq] at hp
       obtain⟨rfl,-,rfl,rfl⟩:=hp
       exact op_ifnil ok R _ t ty x hop ht hx (.inl ⟨rfl,rfl⟩)
      ·simp only[eqP,Plan.done.injEq] at hp
       obtain⟨rfl,-,rfl,rfl⟩:=hp
       exact op_ifnil ok R _ t ty x hop ht hx (.inr ⟨rfl,rfl⟩)
     ·cases hp
    | _=>simp only[hx,hy] at hp;exact eqd (by rw[hx,hy];exact hp)
   | nils c=>simp only[hx,hy] at hp;exact absurd hp nilV_done
   | _=>simp only[hx,hy] at hp;exact eqd (by rw[hx,hy];exact hp)
  | _=>cases hy:s.ev E ty y<;>first|(simp only[hx,hy] at hp;exact absurd hp nilV_done)|(simp only[hx,hy] at hp;exact eqd (by rw[hx,hy];exact hp))
 | makeInterface t x=>
  simp only[plan,hop] at hp
  split at hp
  ·rename_i k k' n ht hx
   obtain⟨h1,hp⟩:=cond_done hp
   have h1:=of_decide_eq_true h1
   subst h1
   simp only[Plan.done.injEq] at hp
   obtain⟨-,-,rfl,rfl⟩:=hp
   exact op_iface_int ok R t x hop ht hx
  ·rename_i g ht hx
   simp only[Plan.done.injEq] at hp
   obtain⟨-,-,rfl,rfl⟩:=hp
   exact op_iface_str ok R t x hop ht hx
  ·cases hp
 | typeAssert x xt t c=>
  cases c with
  | false=>simp only[plan,hop] at hp;cases hp
  | true=>
   simp only[plan,hop] at hp
   split at hp
   ·rename_i k z ht hx
    simp only[Plan.done.injEq] at hp
    obtain⟨rfl,-,rfl,rfl⟩:=hp
    exact op_assert_int ok R x xt t hop ht hx (hq _ rfl)
   ·rename_i z ht hx
    simp only[Plan.done.injEq] at hp
    obtain⟨rfl,-,rfl,rfl⟩:=hp
    exact op_assert_str ok R x xt t hop ht hx (hq _ rfl)
   ·cases hp
 | unOp op t x=>
  simp only[plan,hop] at hp
  cases op with
  | not=>
   cases hx:s.ev E 0 x with
   | bool q=>
    simp only[hx,Plan.done.injEq] at hp
    obtain⟨-,-,rfl,rfl⟩:=hp
    exact op_not ok R t x hop hx
   | _=>simp[hx] at hp
  | neg=>
   cases hx:s.ev E 0 x with
   | int k n=>
    simp only[hx,Plan.done.injEq] at hp
    obtain⟨-,-,rfl,rfl⟩:=hp
    exact op_neg ok R t x hop hx
   | _=>simp[hx] at hp
  | xor=>
   cases hx:s.ev E 0 x with
   | int k n=>
    simp only[hx,Plan.done.injEq] at hp
    obtain⟨-,-,rfl,rfl⟩:=hp
    exact op_xor ok R t x hop hx
   | _=>simp[hx] at hp
  | plus=>simp at hp
 | convert t d x=>
  simp only[plan,hop] at hp
  have hp2:=cond_done' hp
  clear hp
  obtain⟨h1,hp⟩:=hp2
  have hs:E.ty t≠.no:=fun e=>by rw[e] at h1;simp[isNo] at h1
  unfold convV at hp
  split at hp
  ·rename_i k k' n h2 h3
   simp only[Plan.done.injEq] at hp
   obtain⟨-,-,rfl,rfl⟩:=hp
   exact op_conv_int ok R t d x hop h2 hs h3
  ·rename_i g h2 h3
   simp only[Plan.done.injEq] at hp
   obtain⟨-,-,rfl,rfl⟩:=hp
   exact op_conv_str ok R t d x hop h2 hs h3
  ·rename_i y h2 h3
   split at hp
   ·rename_i q hq
    have hp2:=cond_done hp
    clear hp
    obtain⟨h4,hp⟩:=hp2
    split at hp
    ·rename_i g hg
     simp only[Plan.done.injEq] at hp
     obtain⟨-,-,rfl,rfl⟩:=hp
     exact op_bytes_str ok R t d x hop h2 hq h4 hg
    ·simp at hp
   ·simp at hp
  ·rename_i e g h2 h3
   split at hp
   ·rename_i l ht hl
    simp only[Plan.done.injEq] at hp
    obtain⟨-,-,rfl,rfl⟩:=hp
    exact op_str_bytes ok R hb hd t d x hop h2 ht h3 hl
   ·simp at hp
  ·simp at hp
 | makeFunc f first caps=>
  cases f with
  | func f=>
   simp only[plan,hop] at hp
   have hp2:=cond_done hp
   clear hp
   obtain⟨hb1,hp⟩:=hp2
   cases h1:(first.isEmpty&&(caps.toList.map fun x=>s.ev E 0 x).all known) with
   | true=>
    rw[h1] at hp
    simp only[cond_true,Plan.done.injEq] at hp
    obtain⟨-,-,rfl,rfl⟩:=hp
    simp only[Bool.and_eq_true,List.all_eq_true] at h1
    exact op_makeFunc ok R f first caps hop hb1 h1.1 (fun x hx=>h1.2 _ (List.mem_map.2 ⟨x,hx,rfl⟩))
   | false=>
    rw[h1,cond_false] at hp
    have hp2:=cond_done hp
    clear hp h1
    obtain⟨h1,hp⟩:=hp2
    simp only[Bool.and_eq_true,List.all_eq_true] at h1
    simp only[Plan.done.injEq] at hp
    obtain⟨-,-,rfl,rfl⟩:=hp
    exact op_makeBound ok R f first caps hop hb1 h1.1 (fun x hx=>h1.2 _ (List.mem_map.2 ⟨x,hx,rfl⟩))
  | _=>simp[plan,hop] at hp
 | nilCheck x=>
  simp only[plan,hop] at hp
  split at hp
  ·rename_i n p hx
   simp only[Plan.done.injEq] at hp
   obtain⟨-,-,rfl,rfl⟩:=hp
   rw[<-hx]
   exact op_nilCheck ok R x hop (.inl ⟨n,p,hx⟩)
  ·rename_i g c l i p hx
   simp only[Plan.done.injEq] at hp
   obtain⟨-,-,rfl,rfl⟩:=hp
   rw[<-hx]
   exact op_nilCheck ok R x hop (.inr (.inl ⟨g,c,l,i,p,hx⟩))
  ·rename_i c z p hx
   simp only[Plan.done.injEq] at hp
   obtain⟨rfl,-,rfl,rfl⟩:=hp
   exact op_nilCheck_tr ok R x hop hx (hq _ rfl)
  ·rename_i f l hx
   simp only[Plan.done.injEq] at hp
   obtain⟨-,-,rfl,rfl⟩:=hp
   rw[<-hx]
   exact op_nilCheck ok R x hop (.inr (.inr ⟨f,l,hx⟩))
  ·simp at hp
 | extract x i=>
  simp only[plan,hop] at hp
  cases hx:s.ev E 0 x with
  | tup l=>
   simp only[hx] at hp
   have hp2:=cond_done hp
   clear hp
   obtain⟨h1,hp⟩:=hp2
   simp only[Plan.done.injEq] at hp
   obtain⟨-,-,rfl,rfl⟩:=hp
   exact op_extract ok R x i hop hx (Nat.le_of_ble_eq_true h1)
  | _=>simp[hx] at hp
 | build t ps=>
  simp only[plan,hop] at hp
  cases hz:zero E t with
  | agg z=>
   cases ht:E.ty t with
   | st fs=>
    simp only[hz,ht] at hp
    have hp2:=cond_done hp
    clear hp
    obtain⟨h1,hp⟩:=hp2
    split at hp
    ·rename_i l hs
     simp only[Plan.done.injEq] at hp
     obtain⟨-,-,rfl,rfl⟩:=hp
     obtain⟨g1,g2⟩:=fieldsFit_iff fs z 0 h1
     exact op_build_st ok R t ps hop hz ht (fun k hk=>by obtain⟨f,f1,f2,f3,f4⟩:=g2 k hk;exact⟨f,f1,by omega,f3,f4⟩) g1 (fieldTy fs) hs
    ·simp at hp
   | _=>simp[hz,ht] at hp
  | arr c n z=>
   cases ht:E.ty t with
   | arr n' c'=>
    simp only[hz,ht] at hp
    have hp2:=cond_done hp
    clear hp
    obtain⟨h1,hp⟩:=hp2
    simp only[Bool.and_eq_true] at h1
    have e1:=Nat.eq_of_beq_eq_true h1.1
    have e2:=Nat.eq_of_beq_eq_true h1.2
    subst e1;subst e2
    split at hp
    ·rename_i l hs
     split at hp
     ·rename_i xs hx
      have hp2:=cond_done' hp
      clear hp
      obtain⟨h2,hp⟩:=hp2
      simp only[Bool.or_eq_false_iff] at h2
      simp only[Plan.done.injEq] at hp
      obtain⟨-,-,rfl,rfl⟩:=hp
      exact op_build_arr ok R t ps hop hz ht hs hx h2.1 (by simp[h2.2.1,h2.2.2])
     ·simp at hp
    ·simp at hp
   | _=>simp[hz,ht] at hp
  | _=>simp[hz] at hp
 | buildSlice t n ps=>
  simp only[plan,hop] at hp
  cases ht:E.ty t with
  | sl e=>
   simp only[ht] at hp
   cases hz:(Nat.beq n 0&&ps.toList.isEmpty) with
   | true=>
    rw[hz] at hp
    simp only[cond_true] at hp
    have hp2:=cond_done' hp
    clear hp
    obtain⟨h2,hp⟩:=hp2
    simp only[Plan.done.injEq] at hp
    obtain⟨-,-,rfl,rfl⟩:=hp
    simp only[Bool.and_eq_true,List.isEmpty_iff] at hz
    exact op_buildSlice0 ok R hb hd t e n ps hop ht h2 (Nat.eq_of_beq_eq_true hz.1) hz.2
   | false=>
   rw[hz] at hp
   simp only[cond_false] at hp
   split at hp
   ·rename_i l hs
    split at hp
    ·rename_i xs hx
     have hp2:=cond_done' hp
     clear hp
     obtain⟨h2,hp⟩:=hp2
     simp only[Bool.or_eq_false_iff] at h2
     simp only[Plan.done.injEq] at hp
     obtain⟨-,-,rfl,rfl⟩:=hp
     exact op_buildSlice ok R hb hd t e n ps hop ht hs hx h2.1 (by simp[h2.2.1,h2.2.2.1,h2.2.2.2])
    ·simp at hp
   ·simp at hp
  | _=>simp[ht] at hp
 | slice t x lo hi mx=>
  simp only[plan,hop] at hp
  exact plan_slice ok R hop hp hq
 | call c=>
  simp only[plan,hop] at hp
  exact plan_call ok R hb hd hop hp hq
 | _=>simp[plan,hop] at hp
def PDone(p:Plan U)(pre:Option Prop)(rd:List Nat)(wr:List (Nat×AObj U))(v:A U):Prop:=
 p=.done pre rd wr v\/(pre=none/\rd=[]/\∃ b v0 g x,p=.knot b v0/\knotBox g v0=some x/\wr=[(b,.box x)]/\v=.ptr b [])
theorem PDone.look{p:Plan U}{pre rd wr v}(hp:PDone p pre rd wr v):lookOf p=rd++wr.map (·.1):=by
 rcases hp with hp|⟨-,h1,_,_,_,_,hp,-,h2,-⟩
 ·rw[hp];rfl
 ·rw[hp,h1,h2];rfl
theorem knot_plan{v:A U}{b':Nat}(hp:plan E b o s=.knot b' v):b'=b/\∃ t x,o.op=.box t x/\s.ev E t x=v/\fits E t v=true:=by
 cases hop:o.op with
 | box t x=>
  simp only[plan,hop] at hp
  cases h1:fits E t (s.ev E t x) with
  | false=>rw[h1] at hp;cases hp
  | true=>
   rw[h1] at hp
   simp only[cond_true] at hp
   cases h2:Nat.beq t E.kn.ks with
   | false=>rw[h2] at hp;cases hp
   | true=>
    rw[h2] at hp
    cases hp
    exact⟨rfl,t,x,rfl,rfl,h1⟩
 | call c=>exfalso;revert hp;simp only[plan,hop];unfold callV lenV appendV copyV;simp only[Bool.cond_eq_ite];intro hp;(repeat' split at hp)<;>cases hp
 | unOp op t x=>exfalso;revert hp;cases op<;>(simp only[plan,hop];intro hp;(repeat' split at hp)<;>cases hp)
 | makeFunc fn first caps=>exfalso;revert hp;cases fn<;>(simp only[plan,hop];(try simp only[Bool.cond_eq_ite]);intro hp;(repeat' split at hp)<;>cases hp)
 | slice t x lo hi mx=>exfalso;revert hp;simp only[plan,hop,sliceV,Bool.cond_eq_ite];intro hp;(repeat' split at hp)<;>cases hp
 | convert t d x=>exfalso;revert hp;simp only[plan,hop];unfold convV;simp only[Bool.cond_eq_ite];intro hp;(repeat' split at hp)<;>cases hp
 | binOp op t x y ty=>
  exfalso
  have hE:∀ r,eqP (U:=U) op r≠.knot b' v:=fun r h=>by rcases eqP_form (U:=U) op r with e|⟨c,e⟩<;>rw[e] at h<;>cases h
  have hN:∀ u c,nilV E s op t u c y≠.knot b' v:=fun u c h=>by
   unfold nilV at h
   simp only[Bool.cond_eq_ite] at h
   (repeat' split at h)<;>cases h
  simp only[plan,hop] at hp
  cases hy:s.ev E ty y with
  | nils c=>rw[hy] at hp;revert hp;cases s.ev E t x<;>exact hN _ _
  | iv z=>rw[hy] at hp;revert hp;cases z<;>cases s.ev E t x<;>(simp only[Bool.cond_eq_ite];intro hp;(repeat' split at hp)<;>first|exact hE _ hp|cases hp)
  | _=>rw[hy] at hp;revert hp;cases s.ev E t x<;>(simp only[Bool.cond_eq_ite];intro hp;(repeat' split at hp)<;>first|exact hE _ hp|cases hp)
 | typeAssert x xt t c=>exfalso;revert hp;cases c<;>simp only[plan,hop]<;>intro hp<;>(repeat' split at hp)<;>cases hp
 | _=>exfalso;revert hp;simp only[plan,hop];(try simp only[Bool.cond_eq_ite]);intro hp;(repeat' split at hp)<;>cases hp
theorem pdone_sound(ok:EnvOk2 E)(R:Rel E s N a.tmps w ι St)(hb:ι b=none)(hd:isLive (s.h b)=false){pre rd wr v}(hp:PDone (plan E b o s) pre rd wr v)(hq:∀ p,pre=some p->p):Ops E s N a w ι St b o wr v:=by
 rcases hp with hp|⟨-,-,b',v0,g,x,h1,h2,rfl,rfl⟩
 ·exact plan_sound ok R hb hd hp hq
 ·obtain⟨rfl,t,y,h3,h4,h5⟩:=knot_plan h1
  subst h4
  exact op_knot ok R hb hd t y h3 (fits_iff h5).1 h2
end
end Go.V
