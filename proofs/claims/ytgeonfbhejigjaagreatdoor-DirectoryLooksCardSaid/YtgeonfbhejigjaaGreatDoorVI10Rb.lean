import Derived.Test.YtgeonfbhejigjaaGreatDoorVI10Ra
set_option linter.unusedVariables false
set_option linter.unusedSimpArgs false
set_option maxRecDepth 4000
namespace Go.V
def dirOk(d:S_api_Directory):Bool:=dirB d.f0 d.f1 d.f2 d.f3
def mayCmd(c:S_api_Command):Bool:=mayC c.f0 c.f1 c.f2 c.f3 c.f4 c.f5 c.f6
def apE(d:S_api_Directory)(c:S_api_Command):Int:=
 if dirOk d=true/\mayCmd c=true then (if c.f0=4 then (if c.f5=d.f0+1 then 0 else 72) else if c.f0=5 then (if inOk d.f0 d.f1 d.f2 c.f5 c.f6 then 0 else 73) else rqE d.f3 c.f1 c.f2) else 70
def apD(d:S_api_Directory)(c:S_api_Command):S_api_Directory:=
 if c.f0=4 then S_api_Directory.mk c.f5 d.f1 d.f2 d.f3 else if c.f0=5 then S_api_Directory.mk d.f0 d.f1 (d.f2++[S_api_Head.mk c.f5 c.f6 (prevL d.f2 d.f2.length)]) d.f3
 else S_api_Directory.mk d.f0 (rqU d.f0 d.f1 d.f3 c.f0 c.f1 c.f2 c.f3 c.f4) d.f2 (rqS d.f0 d.f1 d.f3 c.f0 c.f1 c.f2 c.f3 c.f4)
def Dz:S_api_Directory:=S_api_Directory.mk 0 [] [] []
def apR(d:S_api_Directory)(c:S_api_Command):S_api_Directory:=if apE d c=0 then apD d c else Dz
theorem usersGo_facts{e:Int}:∀ {l:List S_api_User} {was:ByteArray},usersGo e was l=true->(∀ u∈l,slt was u.f0=true)/\USrt l/\∀ u∈l,nameB u.f0=true/\0<u.f1.length/\versB u.f1=true/\wasE u.f1 u.f1.length<=e+1
 | [],was,_=>⟨fun _ h=>(by cases h),List.Pairwise.nil,fun _ h=>(by cases h)⟩
 | u::l,was,h=>by
  unfold usersGo userOk at h
  simp only[Bool.and_eq_true,decide_eq_true_eq] at h
  obtain⟨⟨h1,h2,h3,h4,h5⟩,h6⟩:=h
  obtain⟨i1,i2,i3⟩:=usersGo_facts h6
  refine⟨fun x hx=>?_,List.pairwise_cons.2 ⟨fun x hx=>i1 x hx,i2⟩,fun x hx=>?_⟩
  ·rcases List.mem_cons.1 hx with rfl|hx
   ·exact h1
   ·exact slt_trans h1 (i1 x hx)
  ·rcases List.mem_cons.1 hx with rfl|hx
   ·exact⟨h2,h3,h4,h5⟩
   ·exact i3 x hx
theorem usersGo_of{e:Int}:∀ {l:List S_api_User} {was:ByteArray},(∀ u∈l,slt was u.f0=true)->USrt l->(∀ u∈l,nameB u.f0=true/\0<u.f1.length/\versB u.f1=true/\wasE u.f1 u.f1.length<=e+1)->usersGo e was l=true
 | [],was,_,_,_=>rfl
 | u::l,was,h1,h2,h3=>by
  unfold usersGo userOk
  obtain⟨g1,g2,g3,g4⟩:=h3 u (by simp)
  unfold USrt at h2
  rw[List.pairwise_cons] at h2
  simp only[Bool.and_eq_true,decide_eq_true_eq]
  exact⟨⟨h1 u (by simp),g1,g2,g3,g4⟩,usersGo_of h2.1 h2.2 fun x hx=>h3 x (List.mem_cons_of_mem _ hx)⟩
theorem sessGo_facts{e:Int}:∀ {l:List S_api_Session} {was:Int},sessGo e was l=true->(∀ x∈l,was<x.f0)/\SSrt l/\∀ x∈l,x.f0<=4/\(1<=x.f1/\x.f1<=1000000)/\(0<=x.f2/\x.f2<=65535)/\0<=x.f3/\x.f3<=e
 | [],was,_=>⟨fun _ h=>(by cases h),List.Pairwise.nil,fun _ h=>(by cases h)⟩
 | u::l,was,h=>by
  unfold sessGo sessOk at h
  simp only[Bool.and_eq_true,decide_eq_true_eq] at h
  obtain⟨⟨h1,h2,h3,h4,h5⟩,h6⟩:=h
  obtain⟨i1,i2,i3⟩:=sessGo_facts h6
  refine⟨fun x hx=>?_,List.pairwise_cons.2 ⟨fun x hx=>i1 x hx,i2⟩,fun x hx=>?_⟩
  ·rcases List.mem_cons.1 hx with rfl|hx
   ·exact h1
   ·have:=i1 x hx;omega
  ·rcases List.mem_cons.1 hx with rfl|hx
   ·exact⟨h2,h3,h4,h5⟩
   ·exact i3 x hx
theorem sessGo_of{e:Int}:∀ {l:List S_api_Session} {was:Int},(∀ x∈l,was<x.f0)->SSrt l->(∀ x∈l,x.f0<=4/\(1<=x.f1/\x.f1<=1000000)/\(0<=x.f2/\x.f2<=65535)/\0<=x.f3/\x.f3<=e)->sessGo e was l=true
 | [],was,_,_,_=>rfl
 | u::l,was,h1,h2,h3=>by
  unfold sessGo sessOk
  have g:=h3 u (by simp)
  unfold SSrt at h2
  rw[List.pairwise_cons] at h2
  simp only[Bool.and_eq_true,decide_eq_true_eq]
  exact⟨⟨h1 u (by simp),g⟩,sessGo_of h2.1 h2.2 fun x hx=>h3 x (List.mem_cons_of_mem _ hx)⟩
structure DirF (d:S_api_Directory):Prop where
 e:0<=d.f0/\d.f0<=200
 ul:d.f1.length<=64
 hl:(d.f2.length:Int)<=d.f0
 sl:d.f3.length<=4
 us:USrt d.f1
 u:∀ u∈d.f1,nameB u.f0=true/\0<u.f1.length/\versB u.f1=true/\wasE u.f1 u.f1.length<=d.f0+1
 hd:headsB d.f2=true
 ss:SSrt d.f3
 s:∀ x∈d.f3,0<x.f0/\x.f0<=4/\(1<=x.f1/\x.f1<=1000000)/\(0<=x.f2/\x.f2<=65535)/\0<=x.f3/\x.f3<=d.f0
theorem nameB_size{s:ByteArray}(h:nameB s=true):1<=s.size/\s.size<=32:=by
 unfold nameB at h
 simpa using h
theorem slt_name{s:ByteArray}(h:nameB s=true):slt str0 s=true:=by
 rw[slt_str0]
 have:=nameB_size h
 exact decide_eq_true (by omega)
theorem dirOk_iff{d:S_api_Directory}:dirOk d=true↔DirF d:=by
 unfold dirOk dirB
 simp only[Bool.and_eq_true,decide_eq_true_eq]
 constructor
 ·rintro⟨h1,h2,h3,h4,h5,h6,h7⟩
  obtain⟨u1,u2,u3⟩:=usersGo_facts h5
  obtain⟨s1,s2,s3⟩:=sessGo_facts h7
  exact⟨h1,h2,h3,h4,u2,u3,h6,s2,fun x hx=>⟨s1 x hx,s3 x hx⟩⟩
 ·intro h
  exact⟨h.e,h.ul,h.hl,h.sl,usersGo_of (fun u hu=>slt_name (h.u u hu).1) h.us h.u,h.hd,sessGo_of (fun x hx=>(h.s x hx).1) h.ss fun x hx=>(h.s x hx).2⟩
theorem DirF.uv{d:S_api_Directory}(h:DirF d):∀ u∈d.f1,u.f1.length<=16:=fun u hu=>(versB_facts (h.u u hu).2.2.1).1
theorem DirF.un{d:S_api_Directory}(h:DirF d):∀ u∈d.f1,u.f0.size<=100000:=fun u hu=>by have:=nameB_size (h.u u hu).1;omega
theorem mayC_kind{c:S_api_Command}(h:mayCmd c=true):(1<=c.f0/\c.f0<=3/\(1<=c.f1/\c.f1<=4)/\(1<=c.f2/\c.f2<=1000000)/\nameB c.f3=true)\/((c.f0=4\/c.f0=5)/\c.f1=0/\1<=c.f5/\c.f5<=200):=by
 unfold mayCmd mayC clientB nobodyB at h
 by_cases h1:c.f0=1\/c.f0=2
 ·rw[if_pos h1] at h
  simp only[Bool.and_eq_true,decide_eq_true_eq] at h
  exact .inl ⟨by omega,by omega,h.1.1,h.1.2.1,h.1.2.2.1⟩
 ·rw[if_neg h1] at h
  by_cases h3:c.f0=3
  ·rw[if_pos h3] at h
   simp only[Bool.and_eq_true,decide_eq_true_eq] at h
   exact .inl ⟨by omega,by omega,h.1.1,h.1.2.1,h.1.2.2.1⟩
  ·rw[if_neg h3] at h
   by_cases h4:c.f0=4
   ·rw[if_pos h4] at h
    simp only[Bool.and_eq_true,decide_eq_true_eq] at h
    exact .inr ⟨.inl h4,h.1.1,h.1.2.2.2.2.1,h.1.2.2.2.2.2⟩
   ·rw[if_neg h4] at h
    by_cases h5:c.f0=5
    ·rw[if_pos h5] at h
     simp only[Bool.and_eq_true,decide_eq_true_eq] at h
     exact .inr ⟨.inr h5,h.1,h.2.2.2.2.1,h.2.2.2.2.2⟩
    ·rw[if_neg h5] at h;cases h
structure DIn (d:S_api_Directory):Prop where
 v:∀ u∈d.f1,u.f1.length<=100000
 h:∀ h∈d.f2,HeadOk h
 hn:d.f2.length<=100000
 sn:d.f3.length<=100000
abbrev KD:=Int->List S_api_User->List S_api_Head->List S_api_Session->Int->Prop
theorem ap13_s(k:Nat){x e:Int}{us:List S_api_User}{hs:List S_api_Head}{ss:List S_api_Session}{K:KD}(hk:1<=k)(h:if x=0 then K e us hs ss 0 else K 0 [] [] [] x):C_directory_Apply_13 k x 0 e [] [] [] us hs ss K:=by
 obtain⟨k,rfl⟩:∃ m,k=m+1:=⟨k-1,by omega⟩
 rw[C_directory_Apply_13]
 refine cond_ndec (fun g=>?_) (fun g=>?_)
 ·rw[if_neg g] at h;exact h
 ·rw[if_pos g] at h;exact h
theorem Apply_s(k:Nat){d:S_api_Directory}{c:S_api_Command}(hd:DIn d){K:KD}(hk:1000000<=k)(h:K (apR d c).f0 (apR d c).f1 (apR d c).f2 (apR d c).f3 (apE d c)) :
  F_directory_Apply k d.f0 d.f1 d.f2 d.f3 c.f0 c.f1 c.f2 c.f3 c.f4 c.f5 c.f6 K:=by
 obtain⟨k,rfl⟩:∃ m,k=m+1:=⟨k-1,by omega⟩
 rw[F_directory_Apply]
 simp only[Hold_eq]
 have fail:∀ x:Int,apE d c=x->x≠0->K 0 [] [] [] x:=by
  intro x hx h0
  have:apR d c=Dz:=by unfold apR;rw[if_neg (by rw[hx];exact h0)]
  rw[this,hx] at h
  exact h
 refine Check_s k hd.v hd.h hd.hn hd.sn (by omega) ?_
 cases hok:dirOk d with
 | false=>
  have:dirB d.f0 d.f1 d.f2 d.f3=false:=hok
  rw[this]
  exact fail 70 (by unfold apE;rw[if_neg (by rw[hok];simp)]) (by decide)
 | true=>
  have hb:dirB d.f0 d.f1 d.f2 d.f3=true:=hok
  have hF:=dirOk_iff.1 hok
  rw[hb]
  show cond (!decide ((0:Int)=0)) _ _
  rw[decide_eq_true rfl,Bool.not_true,cond_false]
  refine directory_May_s k (by omega) (cond_nb (fun hm=>?_) (fun hm=>?_))
  ·exact fail 70 (by unfold apE;rw[if_neg (by rw[show mayCmd c=false from hm];simp)]) (by decide)
  ·have hm:mayCmd c=true:=hm
   have hg:dirOk d=true/\mayCmd c=true:=⟨hok,hm⟩
   have h16:=hF.uv
   have hln:=hF.hl
   have hee:=hF.e
   refine begin_s k hF.ul (fun u hu=>by have:=h16 u hu;omega) hd.hn hd.sn (by omega) (cond_dec (fun h4=>?_) (fun h4=>cond_dec (fun h5=>?_) (fun h5=>?_)))
   ·rw[wrap64 (n:=d.f0+1) (by omega)]
    refine cond_ndec (fun g=>ap13_s k (by omega) ?_) (fun g=>ap13_s k (by omega) ?_)
    ·exact fail 72 (by unfold apE;rw[if_pos hg,if_pos h4,if_neg g]) (by decide)
    ·have hE:apE d c=0:=by unfold apE;rw[if_pos hg,if_pos h4,if_pos g]
     rw[hE,show apR d c=S_api_Directory.mk c.f5 d.f1 d.f2 d.f3 from by unfold apR apD;rw[if_pos hE,if_pos h4]] at h
     exact h
   ·refine intend_s (R:=fun x e us hs ss=>C_directory_Apply_13 k x 0 e [] [] [] us hs ss K) k hF.ul hF.un hd.h hd.hn (by omega) (fun g=>ap13_s k (by omega) ?_) (fun g=>ap13_s k (by omega) ?_)
    ·exact fail 73 (by unfold apE;rw[if_pos hg,if_neg h4,if_pos h5,if_neg g]) (by decide)
    ·have hE:apE d c=0:=by unfold apE;rw[if_pos hg,if_neg h4,if_pos h5,if_pos g]
     rw[hE,show apR d c=S_api_Directory.mk d.f0 d.f1 (d.f2++[S_api_Head.mk c.f5 c.f6 (prevL d.f2 d.f2.length)]) d.f3 from by unfold apR apD;rw[if_pos hE,if_neg h4,if_pos h5]] at h
     exact h
   ·have hk3:1<=c.f0/\c.f0<=3:=by
     rcases mayC_kind hm with g|g
     ·exact⟨g.1,g.2.1⟩
     ·rcases g.1 with g|g
      ·exact absurd g h4
      ·exact absurd g h5
    refine request_s (R:=fun x e us hs ss=>C_directory_Apply_13 k x 0 e [] [] [] us hs ss K) k hF.us hF.ul (fun u hu=>by have:=h16 u hu;omega) hF.ss (by have:=hF.sl;omega) hee hk3 (by omega) (ap13_s k (by omega) ?_)
    have hE:apE d c=rqE d.f3 c.f1 c.f2:=by unfold apE;rw[if_pos hg,if_neg h4,if_neg h5]
    by_cases hz:rqE d.f3 c.f1 c.f2=0
    ·rw[if_pos hz]
     rw[hz] at hE
     rw[hE,show apR d c=S_api_Directory.mk d.f0 (rqU d.f0 d.f1 d.f3 c.f0 c.f1 c.f2 c.f3 c.f4) d.f2 (rqS d.f0 d.f1 d.f3 c.f0 c.f1 c.f2 c.f3 c.f4) from by unfold apR apD;rw[if_pos hE,if_neg h4,if_neg h5]] at h
     exact h
    ·rw[if_neg hz]
     exact fail _ hE hz
end Go.V
