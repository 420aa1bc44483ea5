import Derived.Test.YtgeonfbhejigjaaGreatDoorVI10Rh
set_option linter.unusedVariables false
set_option linter.unusedSimpArgs false
set_option maxRecDepth 8000
namespace Go.V
def eqS(x y:S_api_Signed):Bool:=((decide (x.f0.f0=y.f0.f0))&&((decide (x.f0.f1=y.f0.f1))&&((decide (x.f0.f2=y.f0.f2))&&true)))&&((decide (x.f1=y.f1))&&true)
theorem eqS_iff{x y:S_api_Signed}:eqS x y=true↔x=y:=by
 unfold eqS
 simp only[Bool.and_eq_true,decide_eq_true_eq,and_true]
 constructor
 ·rintro⟨⟨h1,h2,h3⟩,h4⟩
  obtain⟨⟨a,b,c⟩,d⟩:=x
  obtain⟨⟨a',b',c'⟩,d'⟩:=y
  simp only at h1 h2 h3 h4
  subst h1 h2 h3 h4
  rfl
 ·rintro rfl
  exact⟨⟨rfl,rfl,rfl⟩,rfl⟩
instance:DecidableEq S_api_Signed:=fun x y=>decidable_of_iff _ (eqS_iff (x:=x) (y:=y))
theorem eqS_refl(x:S_api_Signed):eqS x x=true:=eqS_iff.2 rfl
def sgo(ep:Int)(x:S_api_Signed):List S_api_Signed->S_api_Signed×Bool×Int
 | []=>(x,true,0)
 | s::l=>if s.f0.f0<ep then sgo ep x l else if ep<s.f0.f0 then (G0,false,160) else if eqS s x=true then (x,false,0) else (G0,false,82)
abbrev KS:=Int->List Int->List Int->List Int->Bool->Int->Prop
def sK(K:KS)(r:S_api_Signed×Bool×Int):Prop:=K r.1.f0.f0 r.1.f0.f1 r.1.f0.f2 r.1.f1 r.2.1 r.2.2
theorem sign_loop{l z:List S_api_Signed}{x:S_api_Signed}{ep:Int}(hn:l.length<=100000){a:Int}{a1 a2 a3:List Int}{b:Bool}{c:Int}
  {K0 K1:List S_api_Signed->Int->Int->List Int->List Int->List Int->Bool->Int->Int->List Int->List Int->List Int->Prop} {K:KS}:∀ (m j k:Nat),j+m=l.length->2*m+10<=k →
  (∀ z e y1 y2 y3 y4 y5 y6 x1 x2 x3 x4,K y1 y2 y3 y4 y5 y6->K0 z e y1 y2 y3 y4 y5 y6 x1 x2 x3 x4)->(∀ z e y1 y2 y3 y4 y5 y6,K x.f0.f0 x.f0.f1 x.f0.f2 x.f1 true 0->K1 z e y1 y2 y3 y4 y5 y6 x.f0.f0 x.f0.f1 x.f0.f2 x.f1)->sK K (sgo ep x (l.drop j)) →
  C_slices_Values_api_Signed_api_Signed_1_1 k l (l.length:Int) (j:Int) z ep a a1 a2 a3 b c x.f0.f0 x.f0.f1 x.f0.f2 x.f1 K0 K1:=by
 intro m
 induction m with
 | zero=>
  intro j k hj hk hK0 hK1 h
  obtain⟨k,rfl⟩:∃ m,k=m+1:=⟨k-1,by omega⟩
  rw[C_slices_Values_api_Signed_api_Signed_1_1]
  rw[List.drop_of_length_le (by omega)] at h
  exact cond_dec (fun h1=>by omega) (fun h1=>hK1 _ _ _ _ _ _ _ _ h)
 | succ m ih=>
  intro j k hj hk hK0 hK1 h
  obtain⟨k,rfl⟩:∃ m,k=m+2:=⟨k-2,by omega⟩
  rw[C_slices_Values_api_Signed_api_Signed_1_1]
  simp only[Hold_eq]
  have hj1:j<l.length:=by omega
  refine cond_dec (fun h1=>⟨by omega,?_⟩) (fun h1=>by omega)
  rw[F_signer_Sign_y14,Int.toNat_natCast,getD_at hj1,step64 j (by omega)]
  rw[drop_cons hj1,sgo] at h
  refine cond_dec (fun h2=>?_) (fun h2=>cond_dec (fun h3=>?_) (fun h3=>cond_nb (fun h4=>?_) (fun h4=>?_)))
  ·rw[if_pos h2] at h
   exact ih (j+1) (k+1) (by omega) (by omega) hK0 hK1 h
  ·rw[if_neg h2,if_pos h3] at h
   exact hK0 _ _ _ _ _ _ _ _ _ _ _ _ h
  ·rw[if_neg h2,if_neg h3,if_neg (by rw[show eqS l[j] x=false from h4];decide)] at h
   exact hK0 _ _ _ _ _ _ _ _ _ _ _ _ h
  ·rw[if_neg h2,if_neg h3,if_pos (show eqS l[j] x=true from h4)] at h
   exact hK0 _ _ _ _ _ _ _ _ _ _ _ _ h
def RU(l:List S_api_Signed)(j:Nat):Prop:=∀ i,0<i->i<j->(l.getD (i-1) G0).f0.f0<(l.getD i G0).f0.f0
theorem RU_zero(l:List S_api_Signed):RU l 0:=fun i _ h=>by omega
theorem RU_succ{l:List S_api_Signed}{j:Nat}:RU l (j+1)↔RU l j/\(j=0\/(l.getD (j-1) G0).f0.f0<(l.getD j G0).f0.f0):=by
 constructor
 ·intro h
  refine⟨fun i h1 h2=>h i h1 (by omega),?_⟩
  by_cases e:j=0
  ·exact .inl e
  ·exact .inr (h j (by omega) (by omega))
 ·rintro⟨h1,h2⟩ i h3 h4
  by_cases e:i=j
  ·subst e
   rcases h2 with h2|h2
   ·omega
   ·exact h2
  ·exact h1 i h3 (by omega)
instance:∀ (l:List S_api_Signed) (j:Nat),Decidable (RU l j)
 | l,0=>isTrue (RU_zero l)
 | l,j+1=>by
  have:=instDecidableRU l j
  exact decidable_of_iff _ RU_succ.symm
section
variable {d:S_api_Directory} {l:List S_api_Signed} {ep:Int} {key:ByteArray}
def sgnB(d:S_api_Directory)(l:List S_api_Signed)(ep:Int):Prop:=1<=ep/\ep<=(d.f2.length:Int)/\RU l l.length
instance:Decidable (sgnB d l ep):=by unfold sgnB;infer_instance
def sgnX(key:ByteArray)(d:S_api_Directory)(ep:Int):S_api_Signed:=signOf key (d.f2.getD (ep.toNat-1) H0)
def sgn(key:ByteArray)(d:S_api_Directory)(l:List S_api_Signed)(ep:Int):S_api_Signed×Bool×Int:=
 if dirOk d=true then (if keyB key=true then (if sgnB d l ep then sgo ep (sgnX key d ep) l else (G0,false,160)) else (G0,false,80)) else (G0,false,70)
theorem sign6(hd:DIn d)(hl:l.length<=5000){K:KS}:∀ (m j k:Nat) (rising:Bool),j+m=l.length->2*m+30000<=k->rising=decide (RU l j) →
  sK K (if sgnB d l ep then sgo ep (sgnX key d ep) l else (G0,false,160)) →
  C_signer_Sign_6 k key l rising (l.length:Int) (j:Int) d.f0 d.f1 d.f2 d.f3 ep 0 (List.replicate 32 0) (List.replicate 32 0) (List.replicate 32 0) false 0 K:=by
 intro m
 induction m with
 | zero=>
  intro j k rising hj hk hr h
  obtain⟨k,rfl⟩:∃ m,k=m+1:=⟨k-1,by omega⟩
  rw[C_signer_Sign_6]
  simp only[Hold_eq]
  obtain rfl:j=l.length:=by omega
  refine cond_dec (fun e=>by omega) (fun _=>cond_dec (fun g=>?_) (fun g=>cond_dec (fun g2=>?_) (fun g2=>cond_nb (fun g3=>?_) (fun g3=>?_))))
  ·rw[if_neg (fun x=>by have:=x.1;omega)] at h;exact h
  ·rw[if_neg (fun x=>by have:=x.2.1;omega)] at h;exact h
  ·rw[if_neg (fun x=>by rw[hr,decide_eq_true x.2.2] at g3;cases g3)] at h;exact h
  ·rw[if_pos ⟨by omega,by omega,by rw[g3] at hr;exact of_decide_eq_true hr.symm⟩] at h
   have hn:=hd.hn
   have e1:IntKind.i64.wrap (ep-1)=ep-1:=wrap64 (by omega)
   have e2:(ep-1).toNat=ep.toNat-1:=by omega
   rw[e1,e2]
   have hi:ep.toNat-1<d.f2.length:=by omega
   refine⟨by omega,?_⟩
   unfold sgnX at h
   rw[getD_at hi] at h ⊢
   refine head_Sign_s k (hd.h _ (List.getElem_mem hi)) (by omega) fun e=>?_
   obtain⟨k,rfl⟩:∃ m,k=m+1:=⟨k-1,by omega⟩
   rw[F_slices_Values_api_Signed_api_Signed,F_slices_Values_api_Signed_api_Signed_1]
   simp only[Hold_eq]
   refine sign_loop (K:=K) (by omega) l.length 0 k (by omega) (by omega) (fun _ _ _ _ _ _ _ _ _ _ _ _ hh=>hh) (fun _ _ _ _ _ _ _ _ hh=>hh) ?_
   rw[List.drop_zero]
   exact h
 | succ m ih=>
  intro j k rising hj hk hr h
  obtain⟨k,rfl⟩:∃ m,k=m+2:=⟨k-2,by omega⟩
  rw[C_signer_Sign_6]
  simp only[Hold_eq]
  have hjl:j<l.length:=by omega
  have next:∀ b,b=decide (RU l (j+1))->C_signer_Sign_9 (k+1) key l b (l.length:Int) (j:Int) d.f0 d.f1 d.f2 d.f3 ep 0 (List.replicate 32 0) (List.replicate 32 0) (List.replicate 32 0) false 0 K:=by
   intro b hb
   rw[C_signer_Sign_9]
   simp only[Hold_eq]
   rw[step64 j (by omega)]
   exact ih (j+1) k b (by omega) (by omega) hb h
  refine cond_dec (fun _=>cond_b (fun g=>?_) (fun g=>?_)) (fun e=>by omega)
  ·have hr1:RU l j:=by rw[g] at hr;exact of_decide_eq_true hr.symm
   refine cond_dec (fun g2=>?_) (fun g2=>?_)
   ·exact next true (decide_eq_true (RU_succ.2 ⟨hr1,.inl (by omega)⟩)).symm
   ·have e1:IntKind.i64.wrap ((j:Int)-1)=((j-1:Nat):Int):=by rw[wrap64 (by omega)];omega
    rw[e1,Int.toNat_natCast,Int.toNat_natCast]
    refine⟨by omega,by omega,next _ (decide_eq_decide.2 ?_)⟩
    rw[RU_succ]
    exact⟨fun x=>⟨hr1,.inr x⟩,fun x=>x.2.resolve_left (by omega)⟩
  ·exact next false (decide_eq_false (fun x=>by rw[g,decide_eq_true (RU_succ.1 x).1] at hr;cases hr)).symm
theorem Sign_s(k:Nat)(hd:DIn d)(hl:l.length<=5000){K:KS}(hk:1000000<=k)(h:sK K (sgn key d l ep)):F_signer_Sign k key d.f0 d.f1 d.f2 d.f3 l ep K:=by
 obtain⟨k,rfl⟩:∃ m,k=m+1:=⟨k-1,by omega⟩
 rw[F_signer_Sign]
 simp only[Hold_eq]
 refine ready_s k hd.v hd.h hd.hn hd.sn (by omega) ?_
 unfold sgn at h
 cases hok:dirOk d with
 | false=>
  have:dirB d.f0 d.f1 d.f2 d.f3=false:=hok
  rw[this]
  rw[if_neg (by rw[hok];simp)] at h
  exact h
 | true=>
  have:dirB d.f0 d.f1 d.f2 d.f3=true:=hok
  rw[this,cond_true]
  rw[if_pos hok] at h
  cases hkb:keyB key with
  | false=>rw[if_neg (by rw[hkb];simp)] at h;exact h
  | true=>
   rw[if_pos hkb] at h
   rw[cond_true]
   refine cond_ndec (fun g=>absurd rfl g) (fun _=>?_)
   exact sign6 hd hl l.length 0 k true (by omega) (by omega) (decide_eq_true (RU_zero l)).symm h
theorem sgn_of(h1:DirF d)(h2:keyB key=true)(h3:sgnB d l ep):sgn key d l ep=sgo ep (sgnX key d ep) l:=by
 unfold sgn
 rw[if_pos (dirOk_iff.2 h1),if_pos h2,if_pos h3]
theorem sgnX_of(h1:DirF d)(h2:keyB key=true)(h3:1<=ep/\ep<=(d.f2.length:Int)):sgnX key d ep=S_api_Signed.mk (d.f2.getD (ep.toNat-1) H0) (macL (bytesTo key) (hb (d.f2.getD (ep.toNat-1) H0)))/\(sgnX key d ep).f0.f0=ep:=by
 have he:=h1.e
 have hl:=h1.hl
 obtain⟨e1,-⟩:=headsB_iff.1 h1.hd (ep.toNat-1) (by omega)
 have hm:MayH (d.f2.getD (ep.toNat-1) H0):=by unfold MayH;omega
 have:sgnX key d ep=S_api_Signed.mk (d.f2.getD (ep.toNat-1) H0) (macL (bytesTo key) (hb (d.f2.getD (ep.toNat-1) H0))):=by
  unfold sgnX signOf
  rw[if_pos ⟨h2,hm⟩]
 refine⟨this,?_⟩
 rw[this]
 show (d.f2.getD (ep.toNat-1) H0).f0=ep
 omega
end
end Go.V
