import Derived.Test.YtgeonfbhejigjaaGreatDoorVK10Rf
set_option linter.unusedVariables false
set_option linter.unusedSimpArgs false
set_option maxRecDepth 4000
namespace Go.V
theorem takeWhile_neg{α:Type}{p:α->Bool}{v:α}(hv:p v=false):∀ l:List α,(l++[v]).takeWhile p=l.takeWhile p
 | []=>by rw[List.nil_append,List.takeWhile_cons_of_neg (by rw[hv];decide)];rfl
 | x::l=>by
  rw[List.cons_append,List.takeWhile_cons,List.takeWhile_cons,takeWhile_neg hv l]
theorem atV_app{l:List S_api_Version}{v:S_api_Version}{ep:Int}(h1:versB l=true)(h2:versB (l++[v])=true)(hv:ep<v.f0):atV (l++[v]) ep=atV l ep:=by
 unfold atV
 rw[if_pos h1,if_pos h2]
 have:decide (v.f0<=ep)=false:=decide_eq_false (by omega)
 exact takeWhile_neg (p:=fun v=>decide (v.f0<=ep)) this l
theorem atV_nil(ep:Int):atV [] ep=[]:=by unfold atV;split<;>rfl
theorem leavesU_app(us vs:List S_api_User)(ep:Int):leavesU (us++vs) ep=leavesU us ep++leavesU vs ep:=List.flatMap_append
theorem addU_sealed{e:Int}{us:List S_api_User}{n:ByteArray}{kd:Int}{key:ByteArray}(hu:USrt us)(hl:us.length<=64){ep:Int}(he:ep<=e):leavesU (addU e us n kd key) ep=leavesU us ep/\∀ m,atV (hist (addU e us n kd key) m) ep=atV (hist us m) ep:=by
 by_cases h:addE e us n kd key=0
 ·obtain⟨g1,g2,g3,lo,hi,h1,h2,s1,s2,ea,g⟩:=add_split hu hl h
  obtain⟨n1,n2,n3,n4,n5⟩:=next_ok g2
  have hv:atV (hist us n++[addV e kd key]) ep=atV (hist us n) ep:=atV_app n3 n2 (by show ep<e+1;omega)
  constructor
  ·have e1:leavesU (addU e us n kd key) ep=leavesU lo ep++(leafU ep (S_api_User.mk n (hist us n))++leavesU hi ep):=by
    rw[ea,leavesU_app]
    unfold leavesU
    rw[List.flatMap_cons]
    unfold leafU
    rw[hv]
   rw[e1]
   rcases g with ⟨x,hx,e2,hh⟩|⟨e2,hh⟩
   ·conv=>rhs;rw[e2,leavesU_app]
    rw[hh]
    unfold leavesU
    rw[List.flatMap_cons]
    subst hx
    rfl
   ·conv=>rhs;rw[e2,leavesU_app]
    rw[hh]
    unfold leafU
    rw[if_pos (atV_nil ep),List.nil_append]
  ·intro m
   by_cases hm:m=n
   ·subst hm
    have:hist (addU e us m kd key) m=hist us m++[addV e kd key]:=(hist_of (addU_srt hu hl) ((addU_mem hu hl h _).2 (.inl rfl))).1
    rw[this,hv]
   ·rw[(addU_other hu hl hm).1]
 ·unfold addU
  rw[if_neg h]
  exact⟨rfl,fun _=>rfl⟩
structure Since (d x:S_api_Directory):Prop where
 f:DirF x
 e:d.f0<=x.f0
 h:d.f2 <+: x.f2
 l:∀ ep,ep<=d.f0->leavesU x.f1 ep=leavesU d.f1 ep/\∀ m,atV (hist x.f1 m) ep=atV (hist d.f1 m) ep
theorem Since.refl{d:S_api_Directory}(h:DirF d):Since d d:=⟨h,Int.le_refl _,List.prefix_refl _,fun _ _=>⟨rfl,fun _=>rfl⟩⟩
theorem Since.ap{d x:S_api_Directory}{c:S_api_Command}(h:Since d x)(hE:apE x c=0):Since d (apR x c):=by
 obtain⟨hF,hle,hp⟩:=ap_ok hE
 refine⟨hF,Int.le_trans h.e hle,h.h.trans hp,fun ep hep=>?_⟩
 have hl:=h.l ep hep
 obtain⟨hx,hm,⟨h4,h5⟩|⟨h5,hi⟩|⟨k1,k2,k3⟩⟩:=apE_ok hE
 ·rw[apR_seal hE h4];exact hl
 ·rw[apR_int hE h5];exact hl
 ·rw[apR_rq hE ⟨k1,k2⟩]
  show leavesU (rqU x.f0 x.f1 x.f3 c.f0 c.f1 c.f2 c.f3 c.f4) ep=_/\∀ m,atV (hist (rqU x.f0 x.f1 x.f3 c.f0 c.f1 c.f2 c.f3 c.f4) m) ep=_
  unfold rqU
  split
  ·exact hl
  ·have:=addU_sealed (n:=c.f3) (kd:=c.f0) (key:=c.f4) hx.us hx.ul (ep:=ep) (e:=x.f0) (by have:=h.e;omega)
   exact⟨this.1.trans hl.1,fun m=>(this.2 m).trans (hl.2 m)⟩
structure Kept (d x:S_api_Directory):Prop where
 h:HsOk x
 s:DirF d->Since d x
theorem Kept.step{d x:S_api_Directory}{c:S_api_Command}(h:Kept d x):apE x c=0->Kept d (apR x c):=fun hE=>⟨h.h.ap,fun hd=>(h.s hd).ap hE⟩
section
variable {d x:S_api_Directory} {n:ByteArray} {ep:Int}
theorem root_same(h:Since d x)(hE:rootDE d ep=0):rootDE x ep=0/\rootD d ep=rootD x ep:=by
 obtain⟨hF,-,h1⟩:=sealE_ok hE
 have hx:rootDE x ep=0:=sealE_of h.f rfl ⟨h1.1,Int.le_trans h1.2 h.e⟩
 refine⟨hx,?_⟩
 unfold rootD
 rw[if_pos hE,if_pos hx]
 unfold rootU
 rw[(h.l ep h1.2).1]
theorem look_same(h:Since d x)(hE:rootDE d ep=0):lookE x n ep=lookE d n ep/\lookV d n ep=lookV x n ep/\(lookV x n ep).length<=16:=by
 obtain⟨hF,-,h1⟩:=sealE_ok hE
 have e:lookE x n ep=lookE d n ep:=by
  unfold lookE sealE
  cases nameB n
  ·rw[if_neg (by simp),if_neg (by simp)]
  ·rw[if_pos (⟨dirOk_iff.2 h.f,rfl⟩:dirOk x=true/\true=true),if_pos (⟨dirOk_iff.2 hF,rfl⟩:dirOk d=true/\true=true),if_pos h1,if_pos (⟨h1.1,Int.le_trans h1.2 h.e⟩:1<=ep/\ep<=x.f0)]
 refine⟨e,?_,?_⟩
 ·unfold lookV
  rw[e,(h.l ep h1.2).2 n]
 ·unfold lookV
  split
  ·unfold atV
   split
   ·rename_i hv
    exact Nat.le_trans (takeWhile_le _ _) (versB_facts hv).1
   ·simp
  ·simp
theorem prefix_getD{α:Type}{l m:List α}(h:l <+: m){i:Nat}(hi:i<l.length){a:α}:m.getD i a=l.getD i a:=by
 obtain⟨t,rfl⟩:=h
 exact getD_app hi
theorem stays21(hp:d.f2 <+: x.f2)(hl:x.f2.length<=5000):∀ (m j k:Nat),j+m=d.f2.length->2*m+20000000<=k->C_l10_DirectoryStays_21 k (j:Int) d.f0 d.f1 d.f2 d.f3 x.f0 x.f1 x.f2 x.f3 (fun b=>b=true):=by
 have hle:=hp.length_le
 intro m
 induction m with
 | zero=>
  intro j k hj hk
  obtain⟨k,rfl⟩:∃ m,k=m+1:=⟨k-1,by omega⟩
  rw[C_l10_DirectoryStays_21]
  simp only[Hold_eq]
  refine cond_dec (fun e=>by omega) (fun _=>works_s k (by omega) ?_)
  rw[cond_true]
  exact looks_s k (by omega) (by first|rfl|trivial|decide)
 | succ m ih=>
  intro j k hj hk
  obtain⟨k,rfl⟩:∃ m,k=m+2:=⟨k-2,by omega⟩
  rw[C_l10_DirectoryStays_21]
  simp only[Hold_eq]
  refine cond_dec (fun _=>?_) (fun e=>by omega)
  rw[C_l10_DirectoryStays_23]
  simp only[Hold_eq]
  rw[Int.toNat_natCast,prefix_getD hp (by omega),step64 j (by omega)]
  refine⟨by omega,by omega,?_⟩
  simp only[decide_true,Bool.and_self,Bool.not_true,cond_false]
  exact ih (j+1) k (by omega) (by omega)
theorem stays14(k:Nat)(h:Kept d x)(hk:30000000<=k):C_l10_DirectoryStays_14 k n ep (rootDE d ep) (lookE d n ep) d.f0 d.f1 d.f2 d.f3 (rootD d ep) (lookV d n ep) x.f0 x.f1 x.f2 x.f3 (fun b=>b=true):=by
 obtain⟨k,rfl⟩:∃ m,k=m+4:=⟨k-4,by omega⟩
 rw[C_l10_DirectoryStays_14]
 simp only[Hold_eq]
 refine cond_ndec (fun _=>works_s (k+3) (by omega) ?_) (fun hE=>?_)
 ·rw[cond_true]
  exact looks_s (k+3) (by omega) (by first|rfl|trivial|decide)
 ·have hs:=h.s (sealE_ok hE).1
  have hd:=hs.f.din h.h
  obtain⟨r1,r2⟩:=root_same hs hE
  obtain⟨l1,l2,l3⟩:=look_same (n:=n) hs hE
  rw[C_l10_DirectoryStays_16]
  simp only[Hold_eq]
  refine dRoot_s (k+2) hd (by omega) ?_
  rw[C_l10_DirectoryStays_17]
  simp only[Hold_eq]
  refine Look_s (k+1) hd (by omega) ?_
  rw[C_l10_DirectoryStays_18]
  simp only[Hold_eq]
  rw[r1,r2,l1,l2]
  have hhl:=hs.f.hl
  have he:=hs.f.e
  refine cond_ndec (fun e=>absurd (by first|rfl|trivial|decide) e) (fun _=>cond_ndec (fun e=>absurd (by first|rfl|trivial|decide) e) (fun _=>cond_ndec (fun e=>absurd (by first|rfl|trivial|decide) e) (fun _=>SameVersions_s k (by omega) (by omega) ?_)))
  rw[Bool.not_true,cond_false]
  refine cond_dec (fun e=>by have:=hs.h.length_le;omega) (fun _=>?_)
  exact stays21 hs.h (by omega) d.f2.length 0 k (by omega) (by have:=hs.h.length_le;omega)
theorem stays14_1(k:Nat)(h:Kept d x)(hk:30000000<=k):C_l10_DirectoryStays_14_1 k n ep (rootDE d ep) (lookE d n ep) d.f0 d.f1 d.f2 d.f3 (rootD d ep) (lookV d n ep) x.f0 x.f1 x.f2 x.f3 (fun b=>b=true):=by
 obtain⟨k,rfl⟩:∃ m,k=m+4:=⟨k-4,by omega⟩
 rw[C_l10_DirectoryStays_14_1]
 simp only[Hold_eq]
 refine cond_ndec (fun _=>works_s (k+3) (by omega) ?_) (fun hE=>?_)
 ·rw[cond_true]
  exact looks_s (k+3) (by omega) (by first|rfl|trivial|decide)
 ·have hs:=h.s (sealE_ok hE).1
  have hd:=hs.f.din h.h
  obtain⟨r1,r2⟩:=root_same hs hE
  obtain⟨l1,l2,l3⟩:=look_same (n:=n) hs hE
  rw[C_l10_DirectoryStays_16_1]
  simp only[Hold_eq]
  refine dRoot_s (k+2) hd (by omega) ?_
  rw[C_l10_DirectoryStays_17_1]
  simp only[Hold_eq]
  refine Look_s (k+1) hd (by omega) ?_
  rw[C_l10_DirectoryStays_18_1]
  simp only[Hold_eq]
  rw[r1,r2,l1,l2]
  have hhl:=hs.f.hl
  have he:=hs.f.e
  refine cond_ndec (fun e=>absurd (by first|rfl|trivial|decide) e) (fun _=>cond_ndec (fun e=>absurd (by first|rfl|trivial|decide) e) (fun _=>cond_ndec (fun e=>absurd (by first|rfl|trivial|decide) e) (fun _=>SameVersions_s k (by omega) (by omega) ?_)))
  rw[Bool.not_true,cond_false]
  refine cond_dec (fun e=>by have:=hs.h.length_le;omega) (fun _=>?_)
  exact stays21 hs.h (by omega) d.f2.length 0 k (by omega) (by have:=hs.h.length_le;omega)
end
abbrev C0:S_api_Command:=S_api_Command.mk 0 0 0 ByteArray.empty ByteArray.empty 0 (List.replicate 32 0)
theorem stays7_1{d:S_api_Directory}{n:ByteArray}{ep:Int}{l:List S_api_Command}(hl:l.length<=40):∀ (m j k:Nat) {x:S_api_Directory},j+m=l.length->5*m+30000100<=k->Kept d x →
  C_l10_DirectoryStays_7_1 k l n ep (rootDE d ep) (lookE d n ep) (j:Int) d.f0 d.f1 d.f2 d.f3 (rootD d ep) (lookV d n ep) x.f0 x.f1 x.f2 x.f3 (fun b=>b=true):=by
 intro m
 induction m with
 | zero=>
  intro j k x hj hk h
  obtain⟨k,rfl⟩:∃ m,k=m+1:=⟨k-1,by omega⟩
  rw[C_l10_DirectoryStays_7_1]
  simp only[Hold_eq]
  exact cond_dec (fun e=>by omega) (fun _=>stays14 k h (by omega))
 | succ m ih=>
  intro j k x hj hk h
  obtain⟨k,rfl⟩:∃ m,k=m+5:=⟨k-5,by omega⟩
  have hjl:j<l.length:=by omega
  rw[C_l10_DirectoryStays_7_1]
  simp only[Hold_eq]
  refine cond_dec (fun _=>?_) (fun e=>by omega)
  rw[C_l10_DirectoryStays_9_1]
  simp only[Hold_eq]
  rw[Int.toNat_natCast]
  refine⟨⟨by omega,by omega⟩,large_s (k+3) (by omega) fun b hb=>cond_b (fun _=>(by first|rfl|trivial|decide)) (fun g=>?_)⟩
  have hd:DIn x:=Small.din (hb g) h.h
  rw[C_l10_DirectoryStays_11_1]
  simp only[Hold_eq]
  rw[Int.toNat_natCast]
  refine⟨⟨by omega,by omega⟩,Apply_s (k+2) (c:=l.getD j C0) hd (by omega) ?_⟩
  rw[C_l10_DirectoryStays_12_1]
  simp only[Hold_eq]
  refine cond_dec (fun hE=>?_) (fun _=>?_)<;>rw[C_l10_DirectoryStays_8]<;>simp only[Hold_eq]<;>rw[step64 j (by omega)]
  ·exact ih (j+1) k (by omega) (by omega) (h.step hE)
  ·exact ih (j+1) k (by omega) (by omega) h
theorem stays7{d:S_api_Directory}{n:ByteArray}{ep:Int}{l:List S_api_Command}(hl:l.length<=40):∀ (m j k:Nat) {x:S_api_Directory},j+m=l.length->5*m+30000100<=k->Kept d x →
  C_l10_DirectoryStays_7 k l n ep (rootDE d ep) (lookE d n ep) (j:Int) d.f0 d.f1 d.f2 d.f3 (rootD d ep) (lookV d n ep) x.f0 x.f1 x.f2 x.f3 (fun b=>b=true):=by
 intro m
 induction m with
 | zero=>
  intro j k x hj hk h
  obtain⟨k,rfl⟩:∃ m,k=m+1:=⟨k-1,by omega⟩
  rw[C_l10_DirectoryStays_7]
  simp only[Hold_eq]
  exact cond_dec (fun e=>by omega) (fun _=>stays14_1 k h (by omega))
 | succ m ih=>
  intro j k x hj hk h
  obtain⟨k,rfl⟩:∃ m,k=m+5:=⟨k-5,by omega⟩
  have hjl:j<l.length:=by omega
  rw[C_l10_DirectoryStays_7]
  simp only[Hold_eq]
  refine cond_dec (fun _=>?_) (fun e=>by omega)
  rw[C_l10_DirectoryStays_9]
  simp only[Hold_eq]
  rw[Int.toNat_natCast]
  refine⟨⟨by omega,by omega⟩,large_s (k+3) (by omega) fun b hb=>cond_b (fun _=>(by first|rfl|trivial|decide)) (fun g=>?_)⟩
  have hd:DIn x:=Small.din (hb g) h.h
  rw[C_l10_DirectoryStays_11]
  simp only[Hold_eq]
  rw[Int.toNat_natCast]
  refine⟨⟨by omega,by omega⟩,Apply_s (k+2) (c:=l.getD j C0) hd (by omega) ?_⟩
  rw[C_l10_DirectoryStays_12]
  simp only[Hold_eq]
  refine cond_dec (fun hE=>?_) (fun _=>?_)
  ·rw[C_l10_DirectoryStays_8]
   simp only[Hold_eq]
   rw[step64 j (by omega)]
   exact stays7_1 hl m (j+1) k (by omega) (by omega) (h.step hE)
  ·rw[C_l10_DirectoryStays_8_1]
   simp only[Hold_eq]
   rw[step64 j (by omega)]
   exact ih (j+1) k (by omega) (by omega) h
theorem Stays_s(k:Nat){d:S_api_Directory}{l:List S_api_Command}{n:ByteArray}{ep:Int}(hh:HsOk d)(hk:40000000<=k):F_l10_DirectoryStays k d.f0 d.f1 d.f2 d.f3 l n ep (fun b=>b=true):=by
 obtain⟨k,rfl⟩:∃ m,k=m+1:=⟨k-1,by omega⟩
 rw[F_l10_DirectoryStays]
 simp only[Hold_eq]
 refine large_s k (by omega) fun b hb=>cond_b (fun _=>(by first|rfl|trivial|decide)) (fun g=>cond_dec (fun _=>(by first|rfl|trivial|decide)) (fun hl=>?_))
 have hd:DIn d:=Small.din (hb g) hh
 exact dRoot_s k hd (by omega) (Look_s k hd (by omega) (stays7 (by omega) l.length 0 k (by omega) (by omega) ⟨hh,Since.refl⟩))
end Go.V
