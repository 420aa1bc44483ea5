import Derived.Test.YtgeonfbhejigjaaGreatDoorVL10F
import Derived.Test.YtgeonfbhejigjaaGreatDoorVJ09
set_option linter.unusedVariables false
set_option linter.unusedSimpArgs false
set_option maxRecDepth 4000
namespace Go.V
theorem rot_s{x n:Int}(e1:iand .u64 (IntKind.u64.wrap (-n)) 31=32-n)(e2:IntKind.u64.wrap (32-(32-n))=n)(h:0<=n/\n<=32)(k:Nat)(hk:1<=k){K:Int->Prop}(hK:K (rotI x n)):F_math_bits_RotateLeft32 k x (-n) K:=by
 obtain⟨k,rfl⟩:∃ m,k=m+1:=⟨k-1,by omega⟩
 rw[F_math_bits_RotateLeft32,e1,e2]
 exact⟨by omega,by omega,hK⟩
theorem step64(t:Nat)(h:t<1000000000):IntKind.i64.wrap ((t:Int)+1)=((t+1:Nat):Int):=by rw[wrap64 (by omega)];rfl
theorem mix_add{x:List Int}{bl:List Int}{n:Int}:∀ (m t k:Nat) (ws:List Int) {K:List Int->List Int->Int->Prop},t+m=8->m+1<=k->K (addGo x m t ws) bl n->C_sha_Hash_mix_23 k x (t:Int) ws bl n K:=by
 intro m
 induction m with
 | zero=>
  intro t k ws K ht hk h
  obtain⟨k,rfl⟩:∃ m,k=m+1:=⟨k-1,by omega⟩
  rw[C_sha_Hash_mix_23]
  exact cond_dec (fun h1=>by omega) (fun h1=>h)
 | succ m ih=>
  intro t k ws K ht hk h
  obtain⟨k,rfl⟩:∃ m,k=m+1:=⟨k-1,by omega⟩
  rw[C_sha_Hash_mix_23]
  simp only[Hold_eq]
  refine cond_dec (fun h1=>?_) (fun h1=>by omega)
  rw[step64 t (by omega),Int.toNat_natCast]
  exact⟨by omega,by omega,by omega,ih (t+1) k _ (by omega) (by omega) h⟩
theorem mix_rounds{w ws bl:List Int}{n:Int}:∀ (m t k:Nat) (a b c d e f g h:Int) {K:List Int->List Int->Int->Prop},t+m=64->m+20<=k->K (addGo (rounds w m t a b c d e f g h) 8 0 ws) bl n->C_sha_Hash_mix_14 k a b c d e f g h w (t:Int) ws bl n K:=by
 intro m
 induction m with
 | zero=>
  intro t k a b c d e f g h K ht hk hK
  obtain⟨k,rfl⟩:∃ m,k=m+1:=⟨k-1,by omega⟩
  rw[C_sha_Hash_mix_14]
  simp only[Hold_eq]
  exact cond_dec (fun h1=>by omega) (fun h1=>mix_add 8 0 k ws (by omega) (by omega) hK)
 | succ m ih=>
  intro t k a b c d e f g h K ht hk hK
  obtain⟨k,rfl⟩:∃ m,k=m+1:=⟨k-1,by omega⟩
  rw[C_sha_Hash_mix_14]
  simp only[Hold_eq]
  refine cond_dec (fun h1=>⟨by omega,?_⟩) (fun h1=>by omega)
  refine rot_s (n:=6) (by decide) (by decide) (by decide) k (by omega) ?_
  refine rot_s (n:=11) (by decide) (by decide) (by decide) k (by omega) ?_
  refine rot_s (n:=25) (by decide) (by decide) (by decide) k (by omega) ⟨by omega,?_⟩
  refine rot_s (n:=2) (by decide) (by decide) (by decide) k (by omega) ?_
  refine rot_s (n:=13) (by decide) (by decide) (by decide) k (by omega) ?_
  refine rot_s (n:=22) (by decide) (by decide) (by decide) k (by omega) ?_
  rw[step64 t (by omega),Int.toNat_natCast]
  exact ih (t+1) k _ _ _ _ _ _ _ _ (by omega) (by omega) hK
theorem mix_sched{ws bl:List Int}{n:Int}:∀ (m t k:Nat) (w:List Int) {K:List Int->List Int->Int->Prop},t+m=64->16<=t->2*m+100<=k →
  K (addGo (rounds (schedGo m t w) 64 0 (ws.getD 0 0) (ws.getD 1 0) (ws.getD 2 0) (ws.getD 3 0) (ws.getD 4 0) (ws.getD 5 0) (ws.getD 6 0) (ws.getD 7 0)) 8 0 ws) bl n->C_sha_Hash_mix_2 k (t:Int) ws bl n w K:=by
 intro m
 induction m with
 | zero=>
  intro t k w K ht h16 hk hK
  obtain⟨k,rfl⟩:∃ m,k=m+1:=⟨k-1,by omega⟩
  rw[C_sha_Hash_mix_2]
  simp only[Hold_eq]
  refine cond_dec (fun h1=>by omega) (fun h1=>⟨by decide,by decide,by decide,by decide,by decide,by decide,by decide,by decide,?_⟩)
  exact mix_rounds 64 0 k _ _ _ _ _ _ _ _ (by omega) (by omega) hK
 | succ m ih=>
  intro t k w K ht h16 hk hK
  obtain⟨k,rfl⟩:∃ m,k=m+2:=⟨k-2,by omega⟩
  rw[C_sha_Hash_mix_2]
  simp only[Hold_eq]
  refine cond_dec (fun h1=>cond_dec (fun h2=>by omega) (fun h2=>?_)) (fun h1=>by omega)
  have e (j:Nat) (hj:j<=16):IntKind.i64.wrap ((t:Int)-(j:Int))=((t-j:Nat):Int):=by rw[wrap64 (by omega)];omega
  have e15:=e 15 (by omega)
  have e2:=e 2 (by omega)
  have e16:=e 16 (by omega)
  have e7:=e 7 (by omega)
  simp only[Int.reduceOfNat,Int.cast_ofNat_Int] at e15 e2 e16 e7
  rw[e15,e2,e16,e7]
  simp only[Int.toNat_natCast]
  refine⟨by omega,by omega,?_⟩
  refine rot_s (n:=7) (by decide) (by decide) (by decide) (k+1) (by omega) ?_
  refine rot_s (n:=18) (by decide) (by decide) (by decide) (k+1) (by omega) ⟨by decide,?_⟩
  refine rot_s (n:=17) (by decide) (by decide) (by decide) (k+1) (by omega) ?_
  refine rot_s (n:=19) (by decide) (by decide) (by decide) (k+1) (by omega) ⟨by decide,by omega,by omega,by omega,?_⟩
  rw[C_sha_Hash_mix_11]
  simp only[Hold_eq]
  rw[step64 t (by omega)]
  exact ih (t+1) k _ (by omega) (by omega) (by omega) hK
theorem mix_words{ws bl:List Int}{n:Int}:∀ (m t k:Nat) (w:List Int) {K:List Int->List Int->Int->Prop},t+m=16->2*m+300<=k →
  K (addGo (rounds (schedGo 48 16 (wordsGo bl m t w)) 64 0 (ws.getD 0 0) (ws.getD 1 0) (ws.getD 2 0) (ws.getD 3 0) (ws.getD 4 0) (ws.getD 5 0) (ws.getD 6 0) (ws.getD 7 0)) 8 0 ws) bl n->C_sha_Hash_mix_2 k (t:Int) ws bl n w K:=by
 intro m
 induction m with
 | zero=>
  intro t k w K ht hk hK
  obtain rfl:t=16:=by omega
  exact mix_sched 48 16 k w (by omega) (by omega) (by omega) hK
 | succ m ih=>
  intro t k w K ht hk hK
  obtain⟨k,rfl⟩:∃ m,k=m+2:=⟨k-2,by omega⟩
  rw[C_sha_Hash_mix_2]
  simp only[Hold_eq]
  refine cond_dec (fun h1=>cond_dec (fun h2=>?_) (fun h2=>by omega)) (fun h1=>by omega)
  have e:IntKind.i64.wrap (4*(t:Int))=((4*t:Nat):Int):=by rw[wrap64 (by omega)];rfl
  rw[e,Int.toNat_natCast,Int.toNat_natCast]
  refine⟨by omega,by omega,by decide,by omega,by decide,by omega,by decide,by omega,by omega,?_⟩
  rw[C_sha_Hash_mix_11]
  simp only[Hold_eq]
  rw[step64 t (by omega)]
  exact ih (t+1) k _ (by omega) (by omega) hK
theorem mix_s(k:Nat){ws bl:List Int}{n:Int}{K:List Int->List Int->Int->Prop}(hk:400<=k)(hK:K (comp ws bl) bl n):F_sha_Hash_mix k ws bl n K:=by
 obtain⟨k,rfl⟩:∃ m,k=m+1:=⟨k-1,by omega⟩
 rw[F_sha_Hash_mix]
 simp only[Hold_eq]
 exact mix_words 16 0 k _ (by omega) (by omega) hK
structure HInv (m ws bl:List Int) (n:Int):Prop where
 ne:n=(m.length:Int)
 we:ws=absorb begin8 (m.take (64*(m.length / 64)))
 be:bl.length=64
 rest:bl.take (m.length % 64)=m.drop (64*(m.length / 64))
theorem absorb_cut(m:List Int):absorb begin8 m=absorb begin8 (m.take (64*(m.length / 64))):=by
 conv=>lhs;rw[<-List.take_append_drop (64*(m.length / 64)) m]
 rw[absorb_append (m.length / 64) _ _ _ (by rw[List.length_take];omega),absorb_short (by rw[List.length_drop];omega)]
theorem Write_loop{c:List Int}{mm:List Int}:∀ (L:Nat) (b m ws bl:List Int) (n:Int) (k:Nat) {K:Int->List Int->List Int->Int->Prop},b.length=L->HInv m ws bl n->m.length+b.length<=10000000000->L+500<=k →
  (∀ ws' bl' n',HInv (m++b) ws' bl' n'->K 0 ws' bl' n')->C_sha_Hash_Write_3 k b ws bl n K:=by
 intro L
 induction L using Nat.strongRecOn with
 | _ L ih=>
  intro b m ws bl n k K hL I hn hk hK
  obtain⟨k,rfl⟩:∃ m,k=m+1:=⟨k-1,by omega⟩
  rw[C_sha_Hash_Write_3]
  simp only[Hold_eq]
  refine cond_dec (fun h1=>?_) (fun h1=>?_)
  ·obtain rfl:=I.ne
   have hmod:Int.tmod (m.length:Int) 64=((m.length % 64:Nat):Int):=rfl
   have e64:Int.toNat ((64:Int)-((m.length % 64:Nat):Int))=64-m.length % 64:=by omega
   rw[hmod,e64]
   generalize hj:Nat.min b.length (64-m.length % 64)=j
   have hj1:j<=b.length:=by rw[<-hj];exact Nat.min_le_left _ _
   have hj2:j<=64-m.length % 64:=by rw[<-hj];exact Nat.min_le_right _ _
   have hj3:0<j:=by
    rw[<-hj]
    have:0<b.length:=by omega
    exact Nat.lt_min.2 ⟨this,by omega⟩
   have hlt:m.length % 64<64:=Nat.mod_lt _ (by decide)
   have en:IntKind.i64.wrap ((m.length:Int)+(j:Int))=((m.length+j:Nat):Int):=by rw[wrap64 (by omega)];rfl
   rw[en,show Int.tmod ((m.length+j:Nat):Int) 64=(((m.length+j) % 64:Nat):Int) from rfl]
   simp only[Int.toNat_natCast]
   refine⟨by decide,by omega,by omega,by decide,?_⟩
   have hm2:(m++b.take j).length=m.length+j:=by rw[List.length_append,List.length_take];omega
   have hsl:(splice bl (m.length % 64) b j).length=64:=by
    simp only[splice,List.length_append,List.length_take,List.length_drop,I.be];omega
   have hst:(splice bl (m.length % 64) b j).take (m.length % 64+j)=m.drop (64*(m.length / 64))++b.take j:=by
    simp only[splice]
    rw[<-List.append_assoc,List.take_left' (by rw[List.length_append,List.length_take,List.length_take,I.be];omega),I.rest]
   have eb:(m++b.take j)++b.drop j=m++b:=by rw[List.append_assoc,List.take_append_drop]
   refine cond_dec (fun h2=>?_) (fun h2=>?_)
   ·have h64:m.length % 64+j=64:=by omega
    refine mix_s k (by omega) ?_
    refine ih (b.drop j).length (by rw[List.length_drop];omega) (b.drop j) (m++b.take j) _ _ _ k rfl ⟨by rw[hm2],?_,hsl,?_⟩ (by rw[hm2,List.length_drop];omega) (by rw[List.length_drop];omega) (by rw[eb];exact hK)
    ·rw[hm2]
     have e1:64*((m.length+j) / 64)=m.length+j:=by omega
     rw[e1,List.take_of_length_le (by omega)]
     have e2:m++b.take j=m.take (64*(m.length / 64))++(m.drop (64*(m.length / 64))++b.take j):=by rw[<-List.append_assoc,List.take_append_drop]
     rw[e2,absorb_append (m.length / 64) _ _ _ (by rw[List.length_take];omega),<-I.we,<-hst,h64,List.take_of_length_le (by omega),absorb_one hsl]
    ·rw[hm2]
     have e1:(m.length+j) % 64=0:=by omega
     rw[e1,List.take_zero,List.drop_of_length_le (by omega)]
   ·have hne:¬(m.length+j) % 64=0:=by omega
    have h64:m.length % 64+j<64:=by omega
    have ed:(m.length+j) / 64=m.length / 64:=by omega
    refine ih (b.drop j).length (by rw[List.length_drop];omega) (b.drop j) (m++b.take j) _ _ _ k rfl ⟨by rw[hm2],?_,hsl,?_⟩ (by rw[hm2,List.length_drop];omega) (by rw[List.length_drop];omega) (by rw[eb];exact hK)
    ·rw[hm2,ed,List.take_append_of_le_length (by omega)];exact I.we
    ·rw[hm2,ed,show (m.length+j) % 64=m.length % 64+j by omega,hst,List.drop_append_of_le_length (by omega)]
  ·have:b=[]:=List.eq_nil_of_length_eq_zero (by omega)
   subst this
   exact hK _ _ _ (by rw[List.append_nil];exact I)
theorem Write_s(k:Nat){b m ws bl:List Int}{n:Int}{K:Int->List Int->List Int->Int->Prop}(I:HInv m ws bl n)(hn:m.length+b.length<=10000000000)(hk:b.length+600<=k)
  (hK:∀ ws' bl' n',HInv (m++b) ws' bl' n'->K 0 ws' bl' n'):F_sha_Hash_Write k b ws bl n K:=by
 obtain⟨k,rfl⟩:∃ m,k=m+1:=⟨k-1,by omega⟩
 rw[F_sha_Hash_Write]
 simp only[Hold_eq]
 exact Write_loop (c:=[]) (mm:=[]) b.length b m ws bl n k rfl I hn (by omega) hK
theorem New_inv:HInv [] begin8 (List.replicate 64 0) 0:=by
 refine⟨rfl,?_,by simp,by simp⟩
 rw[absorb_short (by simp)]
theorem sha_New_s(k:Nat){K:List Int->List Int->Int->Prop}(hk:1<=k)(hK:K begin8 (List.replicate 64 0) 0):F_sha_New k K:=by
 obtain⟨k,rfl⟩:∃ m,k=m+1:=⟨k-1,by omega⟩
 exact hK
theorem Sum_dig{ws:List Int}{a b:List Int}{n:Int}{z bl:List Int}{n2:Int}:∀ (m t k:Nat) (d:List Int) {K:List Int->List Int->List Int->Int->Prop},t+m=32->m+1<=k->d=(List.range t).map (digB ws)++List.replicate m 0->K (digL ws) a b n->C_sha_Hash_Sum_15 k (t:Int) a b n z d ws bl n2 K:=by
 intro m
 induction m with
 | zero=>
  intro t k d K ht hk hd hK
  obtain⟨k,rfl⟩:∃ m,k=m+1:=⟨k-1,by omega⟩
  rw[C_sha_Hash_Sum_15]
  refine cond_dec (fun h1=>by omega) (fun h1=>?_)
  obtain rfl:t=32:=by omega
  rw[hd]
  simpa[digL] using hK
 | succ m ih=>
  intro t k d K ht hk hd hK
  obtain⟨k,rfl⟩:∃ m,k=m+1:=⟨k-1,by omega⟩
  rw[C_sha_Hash_Sum_15]
  simp only[Hold_eq]
  refine cond_dec (fun h1=>?_) (fun h1=>by omega)
  have e1:IntKind.i64.wrap (Int.tdiv (t:Int) 4)=((t / 4:Nat):Int):=by rw[show Int.tdiv (t:Int) 4=((t / 4:Nat):Int) from rfl,wrap64 (by omega)]
  have e2:Int.tmod (t:Int) 4=((t % 4:Nat):Int):=rfl
  have e3:IntKind.i64.wrap (24-IntKind.i64.wrap (8*((t % 4:Nat):Int)))=24-8*((t % 4:Nat):Int):=by rw[wrap64 (n:=8*((t % 4:Nat):Int)) (by omega),wrap64 (by omega)]
  rw[e1,e2,e3,step64 t (by omega)]
  simp only[Int.toNat_natCast]
  refine⟨by decide,by omega,by decide,by omega,by omega,ih (t+1) k _ (by omega) (by omega) ?_ hK⟩
  rw[hd,List.set_append_right _ _ (by simp),List.length_map,List.length_range,Nat.sub_self,List.replicate_succ,List.set_cons_zero,List.range_succ,List.map_append,List.append_assoc]
  rfl
theorem Sum_tail{m ws bl a b:List Int}{n nn:Int}{z:List Int}(I:HInv (m++[128]) ws bl n)(hnn:nn=(m.length:Int))(hm:m.length<=1000000000):∀ (q t k:Nat) (tl:List Int) {K:List Int->List Int->List Int->Int->Prop},t+q=8->q+1000<=k->tl=List.replicate (pad64 m.length) 0++((List.range t).map (lenB m.length)++List.replicate (72-pad64 m.length-t) 0) →
  K (digL (absorb begin8 ((m++[128])++(List.replicate (pad64 m.length) 0++(List.range 8).map (lenB m.length))))) a b nn->C_sha_Hash_Sum_9 k ((pad64 m.length:Nat):Int) (t:Int) a b nn z (List.replicate 32 0) ws bl n tl K:=by
 have hp:pad64 m.length<64:=Nat.mod_lt _ (by decide)
 intro q
 induction q with
 | zero=>
  intro t k tl K ht hk htl hK
  obtain⟨k,rfl⟩:∃ m,k=m+1:=⟨k-1,by omega⟩
  rw[C_sha_Hash_Sum_9]
  simp only[Hold_eq]
  refine cond_dec (fun h1=>by omega) (fun h1=>?_)
  obtain rfl:t=8:=by omega
  have e1:IntKind.i64.wrap (((pad64 m.length:Nat):Int)+8)=((pad64 m.length+8:Nat):Int):=by rw[wrap64 (by omega)];rfl
  have ec:cut tl (Int.toNat 0) (Int.toNat (((pad64 m.length+8:Nat):Int)-0))=List.replicate (pad64 m.length) 0++(List.range 8).map (lenB m.length):=by
   rw[htl,<-List.append_assoc]
   show List.take _ (List.drop 0 _)=_
   rw[List.drop_zero,List.take_left' (by simp;omega)]
  rw[e1,ec]
  refine⟨by omega,Write_s k I (by simp;omega) (by simp;omega) fun ws' bl' n' I'=>?_⟩
  refine Sum_dig 32 0 k _ (by omega) (by omega) (by simp) ?_
  have e2:ws'=absorb begin8 ((m++[128])++(List.replicate (pad64 m.length) 0++(List.range 8).map (lenB m.length))):=by
   rw[absorb_cut];exact I'.we
  rw[e2];exact hK
 | succ q ih=>
  intro t k tl K ht hk htl hK
  obtain⟨k,rfl⟩:∃ m,k=m+1:=⟨k-1,by omega⟩
  rw[C_sha_Hash_Sum_9]
  simp only[Hold_eq]
  refine cond_dec (fun h1=>?_) (fun h1=>by omega)
  have e1:IntKind.i64.wrap (((pad64 m.length:Nat):Int)+(t:Int))=((pad64 m.length+t:Nat):Int):=by rw[wrap64 (by omega)];rfl
  have e3:IntKind.i64.wrap (56-IntKind.i64.wrap (8*(t:Int)))=56-8*(t:Int):=by rw[wrap64 (n:=8*(t:Int)) (by omega),wrap64 (by omega)]
  rw[e1,e3,step64 t (by omega)]
  simp only[Int.toNat_natCast]
  refine⟨by omega,by omega,ih (t+1) k _ (by omega) (by omega) ?_ hK⟩
  rw[htl,List.set_append_right _ _ (by simp),List.length_replicate,Nat.add_sub_cancel_left,List.set_append_right _ _ (by simp),List.length_map,List.length_range,Nat.sub_self]
  obtain⟨r,hr⟩:∃ r,72-pad64 m.length-t=r+1:=⟨72-pad64 m.length-t-1,by omega⟩
  rw[hr,show 72-pad64 m.length-(t+1)=r by omega,List.replicate_succ,List.set_cons_zero,List.range_succ,List.map_append,List.append_assoc,hnn]
  rfl
theorem Sum_s(k:Nat){m ws bl:List Int}{n:Int}{K:List Int->List Int->List Int->Int->Prop}(I:HInv m ws bl n)(hm:m.length<=1000000000)(hk:2000<=k)(hK:K (shaL m) ws bl n):F_sha_Hash_Sum k ws bl n K:=by
 obtain⟨k,rfl⟩:∃ m,k=m+1:=⟨k-1,by omega⟩
 rw[F_sha_Hash_Sum]
 simp only[Hold_eq]
 refine Write_s k I (by simp;omega) (by simp;omega) fun ws' bl' n' I'=>⟨by decide,by decide,?_⟩
 have e1:Int.tmod (IntKind.i64.wrap (120-Int.tmod n' 64)) 64=((pad64 m.length:Nat):Int):=by
  rw[I'.ne,List.length_append]
  show Int.tmod (IntKind.i64.wrap (120-(((m.length+1) % 64:Nat):Int))) 64=_
  rw[wrap64 (by omega),show (120:Int)-(((m.length+1) % 64:Nat):Int)=((120-(m.length+1) % 64:Nat):Int) by omega]
  rfl
 rw[e1]
 refine Sum_tail I' I.ne hm 8 0 k _ (by omega) (by omega) ?_ ?_
 ·have hp:pad64 m.length<64:=Nat.mod_lt _ (by decide)
  rw[List.range_zero,List.map_nil,List.nil_append,List.replicate_append_replicate]
  congr 1
  omega
 ·unfold shaL tailOf at hK
  rw[List.append_assoc]
  exact hK
theorem sha_Sum_s(k:Nat){m:List Int}{K:List Int->Prop}(hm:m.length<=1000000000)(hk:m.length+3000<=k)(hK:K (shaL m)):F_sha_Sum k m K:=by
 obtain⟨k,rfl⟩:∃ m,k=m+1:=⟨k-1,by omega⟩
 rw[F_sha_Sum]
 simp only[Hold_eq]
 refine sha_New_s k (by omega) (Write_s k New_inv (by simp;omega) (by omega) fun ws' bl' n' I'=>Sum_s k (by simpa using I') hm (by omega) hK)
end Go.V
