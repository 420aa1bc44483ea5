import Derived.Test.YtgeonfbhejigjaaGreatDoorVI10Rd
set_option linter.unusedVariables false
set_option linter.unusedSimpArgs false
set_option maxRecDepth 4000
namespace Go.V
theorem headsGo_iff{l:List S_api_Head}:∀ {m j:Nat},headsGo l m j=true↔∀ i,j<=i->i<j+m->(l.getD i H0).f0=((i+1:Nat):Int)/\(l.getD i H0).f2=prevL l i
 | 0,j=>⟨fun _ i h1 h2=>by omega,fun _=>rfl⟩
 | m+1,j=>by
  unfold headsGo
  rw[Bool.and_eq_true,Bool.and_eq_true,decide_eq_true_eq,decide_eq_true_eq,headsGo_iff]
  constructor
  ·rintro⟨h1,h2⟩ i hi hj
   by_cases e:i=j
   ·subst e;exact h1
   ·exact h2 i (by omega) (by omega)
  ·intro h
   exact⟨h j (Nat.le_refl _) (by omega),fun i h1 h2=>h i (by omega) (by omega)⟩
theorem headsB_iff{l:List S_api_Head}:headsB l=true↔∀ i,i<l.length->(l.getD i H0).f0=((i+1:Nat):Int)/\(l.getD i H0).f2=prevL l i:=by
 unfold headsB
 rw[headsGo_iff]
 exact⟨fun h i hi=>h i (Nat.zero_le _) (by omega),fun h i _ hi=>h i (by omega)⟩
theorem getD_app{α:Type}{l m:List α}{i:Nat}{d:α}(h:i<l.length):(l++m).getD i d=l.getD i d:=by
 rw[List.getD_eq_getElem?_getD,List.getD_eq_getElem?_getD,List.getElem?_append_left h]
theorem prevL_app{l m:List S_api_Head}{j:Nat}(h:j<=l.length):prevL (l++m) j=prevL l j:=by
 unfold prevL
 by_cases e:j=0
 ·rw[if_pos e,if_pos e]
 ·rw[if_neg e,if_neg e,getD_app (by omega)]
theorem headsB_app{l:List S_api_Head}{h:S_api_Head}(hl:headsB l=true)(h1:h.f0=(l.length:Int)+1)(h2:h.f2=prevL l l.length):headsB (l++[h])=true:=by
 rw[headsB_iff] at hl ⊢
 intro i hi
 rw[List.length_append,List.length_singleton] at hi
 by_cases e:i=l.length
 ·subst e
  rw[getD_mid,prevL_app (Nat.le_refl _)]
  exact⟨by omega,h2⟩
 ·rw[getD_app (by omega),prevL_app (by omega)]
  exact hl i (by omega)
theorem headD_dig(h:S_api_Head):Dig (headD h):=by
 unfold headD
 split
 ·exact shaL_dig _
 ·exact Dig.zero
theorem prevL_dig(l:List S_api_Head)(j:Nat):Dig (prevL l j):=by
 unfold prevL
 split
 ·exact Dig.zero
 ·exact headD_dig _
theorem srt_len{b:Int}:∀ {l:List S_api_Session} {a:Int},SSrt l->(∀ x∈l,a<x.f0/\x.f0<=b)->a<=b->(l.length:Int)<=b-a
 | [],a,_,_,h=>by simp;omega
 | x::l,a,h,h2,h3=>by
  unfold SSrt at h
  rw[List.pairwise_cons] at h
  have hx:=h2 x (by simp)
  have:=srt_len (l:=l) (a:=x.f0) h.2 (fun y hy=>⟨h.1 y hy,(h2 y (List.mem_cons_of_mem _ hy)).2⟩) (by omega)
  rw[List.length_cons];omega
theorem apE_ok{d:S_api_Directory}{c:S_api_Command}(h:apE d c=0):DirF d/\mayCmd c=true/\((c.f0=4/\c.f5=d.f0+1)\/(c.f0=5/\inOk d.f0 d.f1 d.f2 c.f5 c.f6)\/(1<=c.f0/\c.f0<=3/\rqE d.f3 c.f1 c.f2=0)):=by
 unfold apE at h
 by_cases g:dirOk d=true/\mayCmd c=true
 ·rw[if_pos g] at h
  refine⟨dirOk_iff.1 g.1,g.2,?_⟩
  by_cases h4:c.f0=4
  ·rw[if_pos h4] at h
   by_cases h:c.f5=d.f0+1
   ·exact .inl ⟨h4,h⟩
   ·rename_i h';rw[if_neg h] at h';cases h'
  ·rw[if_neg h4] at h
   by_cases h5:c.f0=5
   ·rw[if_pos h5] at h
    by_cases hi:inOk d.f0 d.f1 d.f2 c.f5 c.f6
    ·exact .inr (.inl ⟨h5,hi⟩)
    ·rw[if_neg hi] at h;cases h
   ·rw[if_neg h5] at h
    rcases mayC_kind g.2 with k|k
    ·exact .inr (.inr ⟨k.1,k.2.1,h⟩)
    ·omega
 ·rw[if_neg g] at h;cases h
theorem DirF.mono{e e':Int}{us:List S_api_User}{hs:List S_api_Head}{ss:List S_api_Session}(h:DirF ⟨e,us,hs,ss⟩)(h1:e<=e')(h2:e'<=200):DirF ⟨e',us,hs,ss⟩:=
 ⟨⟨Int.le_trans h.e.1 h1,h2⟩,h.ul,Int.le_trans h.hl h1,h.sl,h.us,fun u hu=>by have:=h.u u hu;exact⟨this.1,this.2.1,this.2.2.1,Int.le_trans this.2.2.2 (Int.add_le_add_right h1 1)⟩,h.hd,h.ss,fun x hx=>by have:=h.s x hx;exact⟨this.1,this.2.1,this.2.2.1,this.2.2.2.1,this.2.2.2.2.1,Int.le_trans this.2.2.2.2.2 h1⟩⟩
theorem DirF.users{e:Int}{us us':List S_api_User}{hs:List S_api_Head}{ss:List S_api_Session}(h:DirF ⟨e,us,hs,ss⟩)(hl:us'.length<=64)(hs':USrt us')(hu:∀ u∈us',nameB u.f0=true/\0<u.f1.length/\versB u.f1=true/\wasE u.f1 u.f1.length<=e+1):DirF ⟨e,us',hs,ss⟩:=
 ⟨h.e,hl,h.hl,h.sl,hs',hu,h.hd,h.ss,h.s⟩
theorem DirF.sess{e:Int}{us:List S_api_User}{hs:List S_api_Head}{ss ss':List S_api_Session}(h:DirF ⟨e,us,hs,ss⟩)(hs':SSrt ss')(hu:∀ x∈ss',0<x.f0/\x.f0<=4/\(1<=x.f1/\x.f1<=1000000)/\(0<=x.f2/\x.f2<=65535)/\0<=x.f3/\x.f3<=e):DirF ⟨e,us,hs,ss'⟩:=
 ⟨h.e,h.ul,h.hl,by have:=srt_len (b:=4) (a:=0) hs' (fun x hx=>by have:=hu x hx;omega) (by decide);show ss'.length<=4;omega,h.us,h.u,h.hd,hs',hu⟩
theorem addU_ok{e:Int}{us:List S_api_User}{hs:List S_api_Head}{ss:List S_api_Session}{n key:ByteArray}{kd:Int}(h:DirF ⟨e,us,hs,ss⟩)(hn:nameB n=true):DirF ⟨e,addU e us n kd key,hs,ss⟩:=by
 by_cases g:addE e us n kd key=0
 ·have hus:USrt us:=h.us
  have hul:us.length<=64:=h.ul
  obtain⟨g1,g2,g3,lo,hi,h1,h2,s1,s2,ea,g4⟩:=add_split hus hul g
  obtain⟨n1,n2,n3,n4,n5⟩:=next_ok g2
  have sub:∀ u,u∈lo\/u∈hi->u∈us:=by
   intro u hu
   rcases g4 with ⟨x,-,e1,-⟩|⟨e1,-⟩<;>rw[e1]<;>rcases hu with hu|hu<;>simp[hu]
  refine h.users g3 (by rw[ea];exact USrt.mid h1 h2 s1 s2 rfl) ?_
  rw[ea]
  intro u hu
  rcases List.mem_append.1 hu with hu|hu
  ·exact h.u u (sub u (.inl hu))
  ·rcases List.mem_cons.1 hu with rfl|hu
   ·refine⟨hn,by simp,n2,?_⟩
    show wasE (hist us n++[addV e kd key]) (hist us n++[addV e kd key]).length<=e+1
    rw[wasE_app]
    exact Int.le_refl _
   ·exact h.u u (sub u (.inr hu))
 ·unfold addU
  rw[if_neg g]
  exact h
theorem rqS_ok{e:Int}{us vs:List S_api_User}{hs:List S_api_Head}{ss:List S_api_Session}{n key:ByteArray}{kd c s:Int}(h:DirF ⟨e,us,hs,ss⟩)(hc:1<=c/\c<=4)(hs2:1<=s/\s<=1000000):DirF ⟨e,us,hs,rqS e vs ss kd c s n key⟩:=by
 by_cases g:rqOld ss c s
 ·unfold rqS
  rw[if_pos g]
  exact h
 ·have hss:SSrt ss:=h.ss
  obtain⟨lo,hi,h1,h2,s1,s2,ea,g4⟩:=rq_split (ep:=e) (us:=vs) (kd:=kd) (n:=n) (key:=key) hss g
  have sub:∀ u,u∈lo\/u∈hi->u∈ss:=by
   intro u hu
   rcases g4 with ⟨x,-,e1⟩|e1<;>rw[e1]<;>rcases hu with hu|hu<;>simp[hu]
  refine h.sess (by rw[ea];exact SSrt.mid h1 h2 s1 s2 rfl) ?_
  rw[ea]
  intro u hu
  rcases List.mem_append.1 hu with hu|hu
  ·exact h.s u (sub u (.inl hu))
  ·rcases List.mem_cons.1 hu with rfl|hu
   ·have he:=h.e
    have hcode:=addE_code e vs n kd key
    refine⟨?_,hc.2,hs2,hcode,he.1,Int.le_refl _⟩
    show 0<c
    omega
   ·exact h.s u (sub u (.inr hu))
theorem apR_seal{d:S_api_Directory}{c:S_api_Command}(h:apE d c=0)(h4:c.f0=4):apR d c=S_api_Directory.mk c.f5 d.f1 d.f2 d.f3:=by unfold apR apD;rw[if_pos h,if_pos h4]
theorem apR_int{d:S_api_Directory}{c:S_api_Command}(h:apE d c=0)(h4:c.f0=5):apR d c=S_api_Directory.mk d.f0 d.f1 (d.f2++[S_api_Head.mk c.f5 c.f6 (prevL d.f2 d.f2.length)]) d.f3:=by unfold apR apD;rw[if_pos h,if_neg (by omega),if_pos h4]
theorem apR_rq{d:S_api_Directory}{c:S_api_Command}(h:apE d c=0)(h4:1<=c.f0/\c.f0<=3):apR d c=S_api_Directory.mk d.f0 (rqU d.f0 d.f1 d.f3 c.f0 c.f1 c.f2 c.f3 c.f4) d.f2 (rqS d.f0 d.f1 d.f3 c.f0 c.f1 c.f2 c.f3 c.f4):=by unfold apR apD;rw[if_pos h,if_neg (by omega),if_neg (by omega)]
theorem may_rq{c:S_api_Command}(h:mayCmd c=true)(h4:1<=c.f0/\c.f0<=3):(1<=c.f1/\c.f1<=4)/\(1<=c.f2/\c.f2<=1000000)/\nameB c.f3=true:=by
 rcases mayC_kind h with k|k
 ·exact k.2.2
 ·omega
theorem may_ep{c:S_api_Command}(h:mayCmd c=true)(h4:c.f0=4\/c.f0=5):c.f1=0/\1<=c.f5/\c.f5<=200:=by
 rcases mayC_kind h with k|k
 ·omega
 ·exact k.2
theorem ap_ok{d:S_api_Directory}{c:S_api_Command}(h:apE d c=0):DirF (apR d c)/\d.f0<=(apR d c).f0/\d.f2 <+: (apR d c).f2:=by
 obtain⟨hF,hm,⟨h4,h5⟩|⟨h5,hi⟩|⟨k1,k2,k3⟩⟩:=apE_ok h
 ·rw[apR_seal h h4]
  exact⟨hF.mono (e:=d.f0) (by omega) (may_ep hm (.inl h4)).2.2,by show d.f0<=c.f5;omega,List.prefix_refl _⟩
 ·rw[apR_int h h5]
  refine⟨⟨hF.e,hF.ul,?_,hF.sl,hF.us,hF.u,headsB_app hF.hd hi.1 rfl,hF.ss,hF.s⟩,Int.le_refl _,List.prefix_append _ _⟩
  show ((d.f2++[_]).length:Int)<=d.f0
  rw[List.length_append,List.length_singleton]
  have:=hi.1;have:=hi.2.1
  omega
 ·rw[apR_rq h ⟨k1,k2⟩]
  obtain⟨m1,m2,m3⟩:=may_rq hm ⟨k1,k2⟩
  refine⟨?_,Int.le_refl _,List.prefix_refl _⟩
  refine rqS_ok ?_ m1 m2
  unfold rqU
  split
  ·exact hF
  ·exact addU_ok hF m3
def HsOk(d:S_api_Directory):Prop:=∀ h∈d.f2,HeadOk h
theorem DirF.din{d:S_api_Directory}(h:DirF d)(hh:HsOk d):DIn d:=
 ⟨fun u hu=>by have:=h.uv u hu;omega,hh,by have:=h.hl;have:=h.e;omega,by have:=h.sl;omega⟩
theorem HsOk.ap{d:S_api_Directory}{c:S_api_Command}(h:HsOk d):HsOk (apR d c):=by
 by_cases g:apE d c=0
 ·obtain⟨hF,hm,⟨h4,h5⟩|⟨h5,hi⟩|⟨k1,k2,k3⟩⟩:=apE_ok g
  ·rw[apR_seal g h4];exact h
  ·rw[apR_int g h5]
   intro x hx
   rcases List.mem_append.1 hx with hx|hx
   ·exact h x hx
   ·obtain rfl:=List.mem_singleton.1 hx
    refine⟨?_,prevL_dig _ _⟩
    show Dig c.f6
    rw[hi.2.2]
    exact rootU_dig _ _
  ·rw[apR_rq g ⟨k1,k2⟩];exact h
 ·unfold apR
  rw[if_neg g]
  intro x hx
  cases hx
theorem apR_bad{d:S_api_Directory}{c:S_api_Command}(g:apE d c≠0):apR d c=Dz:=by unfold apR;rw[if_neg g]
theorem DIn.ap{d:S_api_Directory}{c:S_api_Command}(h:HsOk d):DIn (apR d c):=by
 by_cases g:apE d c=0
 ·exact (ap_ok g).1.din h.ap
 ·rw[apR_bad g];exact DIn.nil _ _ _ (by simp) (by simp)
theorem DirF.small{d:S_api_Directory}(h:DirF d):Small d.f1 d.f2 d.f3:=⟨by have:=h.ul;omega,by have:=h.hl;have:=h.e;omega,by have:=h.sl;omega,fun x hx=>by have:=h.uv x hx;omega⟩
end Go.V
