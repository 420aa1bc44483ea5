import Derived.Test.YtgeonfbhejigjaaGreatDoorVI10F
import Derived.Test.YtgeonfbhejigjaaGreatDoorVJ09
set_option linter.unusedVariables false
set_option linter.unusedSimpArgs false
set_option maxRecDepth 4000
namespace Go.V
theorem rot_s{x n:Int}(e1:iand .u64 (IntKind.u64.wrap (-n)) 31=32-n)(e2:IntKind.u64.wrap (32-(32-n))=n)(h:0<=n/\n<=32)(k:Nat)(hk:1<=k){K:Int->Prop}(hK:K (rotI x n)):F_math_bits_RotateLeft32 k x (-n) K:=by
 obtain⟨k,rfl⟩:∃ m,k=m+1:=⟨k-1,by omega⟩
 rw[F_math_bits_RotateLeft32,e1,e2]
 exact⟨by omega,by omega,hK⟩
theorem turned_s{x n:Int}(h:0<=n/\n<=32)(k:Nat)(hk:1<=k){K:Int->Prop}(hK:K (rotI x n)):F_r02_turned k x n K:=by
 obtain⟨k,rfl⟩:∃ m,k=m+1:=⟨k-1,by omega⟩
 rw[F_r02_turned,wrap64 (by omega),ior_comm32]
 exact⟨by omega,by omega,hK⟩
theorem step64(t:Nat)(h:t<1000000000):IntKind.i64.wrap ((t:Int)+1)=((t+1:Nat):Int):=by rw[wrap64 (by omega)];rfl
theorem mix_add{x:List Int}{bl:List Int}{n:Int}:∀ (m t k:Nat) (ws:List Int) {K:List Int->List Int->Int->Prop},t+m=8->m+1<=k->K (addGo x m t ws) bl n->C_sha_Hash_mix_23 k x (t:Int) ws bl n K:=by
 intro m
 induction m with
 | zero=>
  intro t k ws K ht hk h
  obtain⟨k,rfl⟩:∃ m,k=m+1:=⟨k-1,by omega⟩
  rw[C_sha_Hash_mix_23]
  exact cond_dec (fun h1=>by omega) (fun h1=>h)
 | succ m ih=>
  intro t k ws K ht hk h
  obtain⟨k,rfl⟩:∃ m,k=m+1:=⟨k-1,by omega⟩
  rw[C_sha_Hash_mix_23]
  simp only[Hold_eq]
  refine cond_dec (fun h1=>?_) (fun h1=>by omega)
  rw[step64 t (by omega),Int.toNat_natCast]
  exact⟨by omega,by omega,by omega,ih (t+1) k _ (by omega) (by omega) h⟩
theorem mix_rounds{w ws bl:List Int}{n:Int}:∀ (m t k:Nat) (a b c d e f g h:Int) {K:List Int->List Int->Int->Prop},t+m=64->m+20<=k->K (addGo (rounds w m t a b c d e f g h) 8 0 ws) bl n->C_sha_Hash_mix_14 k a b c d e f g h w (t:Int) ws bl n K:=by
 intro m
 induction m with
 | zero=>
  intro t k a b c d e f g h K ht hk hK
  obtain⟨k,rfl⟩:∃ m,k=m+1:=⟨k-1,by omega⟩
  rw[C_sha_Hash_mix_14]
  simp only[Hold_eq]
  exact cond_dec (fun h1=>by omega) (fun h1=>mix_add 8 0 k ws (by omega) (by omega) hK)
 | succ m ih=>
  intro t k a b c d e f g h K ht hk hK
  obtain⟨k,rfl⟩:∃ m,k=m+1:=⟨k-1,by omega⟩
  rw[C_sha_Hash_mix_14]
  simp only[Hold_eq]
  refine cond_dec (fun h1=>⟨by omega,?_⟩) (fun h1=>by omega)
  refine rot_s (n:=6) (by decide) (by decide) (by decide) k (by omega) ?_
  refine rot_s (n:=11) (by decide) (by decide) (by decide) k (by omega) ?_
  refine rot_s (n:=25) (by decide) (by decide) (by decide) k (by omega) ⟨by omega,?_⟩
  refine rot_s (n:=2) (by decide) (by decide) (by decide) k (by omega) ?_
  refine rot_s (n:=13) (by decide) (by decide) (by decide) k (by omega) ?_
  refine rot_s (n:=22) (by decide) (by decide) (by decide) k (by omega) ?_
  rw[step64 t (by omega),Int.toNat_natCast]
  exact ih (t+1) k _ _ _ _ _ _ _ _ (by omega) (by omega) hK
theorem mix_sched{ws bl:List Int}{n:Int}:∀ (m t k:Nat) (w:List Int) {K:List Int->List Int->Int->Prop},t+m=64->16<=t->2*m+100<=k →
  K (addGo (rounds (schedGo m t w) 64 0 (ws.getD 0 0) (ws.getD 1 0) (ws.getD 2 0) (ws.getD 3 0) (ws.getD 4 0) (ws.getD 5 0) (ws.getD 6 0) (ws.getD 7 0)) 8 0 ws) bl n->C_sha_Hash_mix_2 k (t:Int) ws bl n w K:=by
 intro m
 induction m with
 | zero=>
  intro t k w K ht h16 hk hK
  obtain⟨k,rfl⟩:∃ m,k=m+1:=⟨k-1,by omega⟩
  rw[C_sha_Hash_mix_2]
  simp only[Hold_eq]
  refine cond_dec (fun h1=>by omega) (fun h1=>⟨by decide,by decide,by decide,by decide,by decide,by decide,by decide,by decide,?_⟩)
  exact mix_rounds 64 0 k _ _ _ _ _ _ _ _ (by omega) (by omega) hK
 | succ m ih=>
  intro t k w K ht h16 hk hK
  obtain⟨k,rfl⟩:∃ m,k=m+2:=⟨k-2,by omega⟩
  rw[C_sha_Hash_mix_2]
  simp only[Hold_eq]
  refine cond_dec (fun h1=>cond_dec (fun h2=>by omega) (fun h2=>?_)) (fun h1=>by omega)
  have e (j:Nat) (hj:j<=16):IntKind.i64.wrap ((t:Int)-(j:Int))=((t-j:Nat):Int):=by rw[wrap64 (by omega)];omega
  have e15:=e 15 (by omega)
  have e2:=e 2 (by omega)
  have e16:=e 16 (by omega)
  have e7:=e 7 (by omega)
  simp only[Int.reduceOfNat,Int.cast_ofNat_Int] at e15 e2 e16 e7
  rw[e15,e2,e16,e7]
  simp only[Int.toNat_natCast]
  refine⟨by omega,by omega,?_⟩
  refine rot_s (n:=7) (by decide) (by decide) (by decide) (k+1) (by omega) ?_
  refine rot_s (n:=18) (by decide) (by decide) (by decide) (k+1) (by omega) ⟨by decide,?_⟩
  refine rot_s (n:=17) (by decide) (by decide) (by decide) (k+1) (by omega) ?_
  refine rot_s (n:=19) (by decide) (by decide) (by decide) (k+1) (by omega) ⟨by decide,by omega,by omega,by omega,?_⟩
  rw[C_sha_Hash_mix_11]
  simp only[Hold_eq]
  rw[step64 t (by omega)]
  exact ih (t+1) k _ (by omega) (by omega) (by omega) hK
theorem mix_words{ws bl:List Int}{n:Int}:∀ (m t k:Nat) (w:List Int) {K:List Int->List Int->Int->Prop},t+m=16->2*m+300<=k →
  K (addGo (rounds (schedGo 48 16 (wordsGo bl m t w)) 64 0 (ws.getD 0 0) (ws.getD 1 0) (ws.getD 2 0) (ws.getD 3 0) (ws.getD 4 0) (ws.getD 5 0) (ws.getD 6 0) (ws.getD 7 0)) 8 0 ws) bl n->C_sha_Hash_mix_2 k (t:Int) ws bl n w K:=by
 intro m
 induction m with
 | zero=>
  intro t k w K ht hk hK
  obtain rfl:t=16:=by omega
  exact mix_sched 48 16 k w (by omega) (by omega) (by omega) hK
 | succ m ih=>
  intro t k w K ht hk hK
  obtain⟨k,rfl⟩:∃ m,k=m+2:=⟨k-2,by omega⟩
  rw[C_sha_Hash_mix_2]
  simp only[Hold_eq]
  refine cond_dec (fun h1=>cond_dec (fun h2=>?_) (fun h2=>by omega)) (fun h1=>by omega)
  have e:IntKind.i64.wrap (4*(t:Int))=((4*t:Nat):Int):=by rw[wrap64 (by omega)];rfl
  rw[e,Int.toNat_natCast,Int.toNat_natCast]
  refine⟨by omega,by omega,by decide,by omega,by decide,by omega,by decide,by omega,by omega,?_⟩
  rw[C_sha_Hash_mix_11]
  simp only[Hold_eq]
  rw[step64 t (by omega)]
  exact ih (t+1) k _ (by omega) (by omega) hK
theorem mix_s(k:Nat){ws bl:List Int}{n:Int}{K:List Int->List Int->Int->Prop}(hk:400<=k)(hK:K (comp ws bl) bl n):F_sha_Hash_mix k ws bl n K:=by
 obtain⟨k,rfl⟩:∃ m,k=m+1:=⟨k-1,by omega⟩
 rw[F_sha_Hash_mix]
 simp only[Hold_eq]
 exact mix_words 16 0 k _ (by omega) (by omega) hK
structure HInv (m ws bl:List Int) (n:Int):Prop where
 ne:n=(m.length:Int)
 we:ws=absorb begin8 (m.take (64*(m.length / 64)))
 be:bl.length=64
 rest:bl.take (m.length % 64)=m.drop (64*(m.length / 64))
theorem absorb_cut(m:List Int):absorb begin8 m=absorb begin8 (m.take (64*(m.length / 64))):=by
 conv=>lhs;rw[<-List.take_append_drop (64*(m.length / 64)) m]
 rw[absorb_append (m.length / 64) _ _ _ (by rw[List.length_take];omega),absorb_short (by rw[List.length_drop];omega)]
theorem Write_loop{c:List Int}{mm:List Int}:∀ (L:Nat) (b m ws bl:List Int) (n:Int) (k:Nat) {K:Int->List Int->List Int->Int->Prop},b.length=L->HInv m ws bl n->m.length+b.length<=10000000000->L+500<=k →
  (∀ ws' bl' n',HInv (m++b) ws' bl' n'->K 0 ws' bl' n')->C_sha_Hash_Write_3 k b ws bl n K:=by
 intro L
 induction L using Nat.strongRecOn with
 | _ L ih=>
  intro b m ws bl n k K hL I hn hk hK
  obtain⟨k,rfl⟩:∃ m,k=m+1:=⟨k-1,by omega⟩
  rw[C_sha_Hash_Write_3]
  simp only[Hold_eq]
  refine cond_dec (fun h1=>?_) (fun h1=>?_)
  ·obtain rfl:=I.ne
   have hmod:Int.tmod (m.length:Int) 64=((m.length % 64:Nat):Int):=rfl
   have e64:Int.toNat ((64:Int)-((m.length % 64:Nat):Int))=64-m.length % 64:=by omega
   rw[hmod,e64]
   generalize hj:Nat.min b.length (64-m.length % 64)=j
   have hj1:j<=b.length:=by rw[<-hj];exact Nat.min_le_left _ _
   have hj2:j<=64-m.length % 64:=by rw[<-hj];exact Nat.min_le_right _ _
   have hj3:0<j:=by
    rw[<-hj]
    have:0<b.length:=by omega
    exact Nat.lt_min.2 ⟨this,by omega⟩
   have hlt:m.length % 64<64:=Nat.mod_lt _ (by decide)
   have en:IntKind.i64.wrap ((m.length:Int)+(j:Int))=((m.length+j:Nat):Int):=by rw[wrap64 (by omega)];rfl
   rw[en,show Int.tmod ((m.length+j:Nat):Int) 64=(((m.length+j) % 64:Nat):Int) from rfl]
   simp only[Int.toNat_natCast]
   refine⟨by decide,by omega,by omega,by decide,?_⟩
   have hm2:(m++b.take j).length=m.length+j:=by rw[List.length_append,List.length_take];omega
   have hsl:(splice bl (m.length % 64) b j).length=64:=by
    simp only[splice,List.length_append,List.length_take,List.length_drop,I.be];omega
   have hst:(splice bl (m.length % 64) b j).take (m.length % 64+j)=m.drop (64*(m.length / 64))++b.take j:=by
    simp only[splice]
    rw[<-List.append_assoc,List.take_left' (by rw[List.length_append,List.length_take,List.length_take,I.be];omega),I.rest]
   have eb:(m++b.take j)++b.drop j=m++b:=by rw[List.append_assoc,List.take_append_drop]
   refine cond_dec (fun h2=>?_) (fun h2=>?_)
   ·have h64:m.length % 64+j=64:=by omega
    refine mix_s k (by omega) ?_
    refine ih (b.drop j).length (by rw[List.length_drop];omega) (b.drop j) (m++b.take j) _ _ _ k rfl ⟨by rw[hm2],?_,hsl,?_⟩ (by rw[hm2,List.length_drop];omega) (by rw[List.length_drop];omega) (by rw[eb];exact hK)
    ·rw[hm2]
     have e1:64*((m.length+j) / 64)=m.length+j:=by omega
     rw[e1,List.take_of_length_le (by omega)]
     have e2:m++b.take j=m.take (64*(m.length / 64))++(m.drop (64*(m.length / 64))++b.take j):=by rw[<-List.append_assoc,List.take_append_drop]
     rw[e2,absorb_append (m.length / 64) _ _ _ (by rw[List.length_take];omega),<-I.we,<-hst,h64,List.take_of_length_le (by omega),absorb_one hsl]
    ·rw[hm2]
     have e1:(m.length+j) % 64=0:=by omega
     rw[e1,List.take_zero,List.drop_of_length_le (by omega)]
   ·have hne:¬(m.length+j) % 64=0:=by omega
    have h64:m.length % 64+j<64:=by omega
    have ed:(m.length+j) / 64=m.length / 64:=by omega
    refine ih (b.drop j).length (by rw[List.length_drop];omega) (b.drop j) (m++b.take j) _ _ _ k rfl ⟨by rw[hm2],?_,hsl,?_⟩ (by rw[hm2,List.length_drop];omega) (by rw[List.length_drop];omega) (by rw[eb];exact hK)
    ·rw[hm2,ed,List.take_append_of_le_length (by omega)];exact I.we
    ·rw[hm2,ed,show (m.length+j) % 64=m.length % 64+j by omega,hst,List.drop_append_of_le_length (by omega)]
  ·have:b=[]:=List.eq_nil_of_length_eq_zero (by omega)
   subst this
   exact hK _ _ _ (by rw[List.append_nil];exact I)
theorem Write_s(k:Nat){b m ws bl:List Int}{n:Int}{K:Int->List Int->List Int->Int->Prop}(I:HInv m ws bl n)(hn:m.length+b.length<=10000000000)(hk:b.length+600<=k)
  (hK:∀ ws' bl' n',HInv (m++b) ws' bl' n'->K 0 ws' bl' n'):F_sha_Hash_Write k b ws bl n K:=by
 obtain⟨k,rfl⟩:∃ m,k=m+1:=⟨k-1,by omega⟩
 rw[F_sha_Hash_Write]
 simp only[Hold_eq]
 exact Write_loop (c:=[]) (mm:=[]) b.length b m ws bl n k rfl I hn (by omega) hK
theorem New_inv:HInv [] begin8 (List.replicate 64 0) 0:=by
 refine⟨rfl,?_,by simp,by simp⟩
 rw[absorb_short (by simp)]
theorem sha_New_s(k:Nat){K:List Int->List Int->Int->Prop}(hk:1<=k)(hK:K begin8 (List.replicate 64 0) 0):F_sha_New k K:=by
 obtain⟨k,rfl⟩:∃ m,k=m+1:=⟨k-1,by omega⟩
 exact hK
theorem Sum_dig{ws:List Int}{a b:List Int}{n:Int}{z bl:List Int}{n2:Int}:∀ (m t k:Nat) (d:List Int) {K:List Int->List Int->List Int->Int->Prop},t+m=32->m+1<=k->d=(List.range t).map (digB ws)++List.replicate m 0->K (digL ws) a b n->C_sha_Hash_Sum_15 k (t:Int) a b n z d ws bl n2 K:=by
 intro m
 induction m with
 | zero=>
  intro t k d K ht hk hd hK
  obtain⟨k,rfl⟩:∃ m,k=m+1:=⟨k-1,by omega⟩
  rw[C_sha_Hash_Sum_15]
  refine cond_dec (fun h1=>by omega) (fun h1=>?_)
  obtain rfl:t=32:=by omega
  rw[hd]
  simpa[digL] using hK
 | succ m ih=>
  intro t k d K ht hk hd hK
  obtain⟨k,rfl⟩:∃ m,k=m+1:=⟨k-1,by omega⟩
  rw[C_sha_Hash_Sum_15]
  simp only[Hold_eq]
  refine cond_dec (fun h1=>?_) (fun h1=>by omega)
  have e1:IntKind.i64.wrap (Int.tdiv (t:Int) 4)=((t / 4:Nat):Int):=by rw[show Int.tdiv (t:Int) 4=((t / 4:Nat):Int) from rfl,wrap64 (by omega)]
  have e2:Int.tmod (t:Int) 4=((t % 4:Nat):Int):=rfl
  have e3:IntKind.i64.wrap (24-IntKind.i64.wrap (8*((t % 4:Nat):Int)))=24-8*((t % 4:Nat):Int):=by rw[wrap64 (n:=8*((t % 4:Nat):Int)) (by omega),wrap64 (by omega)]
  rw[e1,e2,e3,step64 t (by omega)]
  simp only[Int.toNat_natCast]
  refine⟨by decide,by omega,by decide,by omega,by omega,ih (t+1) k _ (by omega) (by omega) ?_ hK⟩
  rw[hd,List.set_append_right _ _ (by simp),List.length_map,List.length_range,Nat.sub_self,List.replicate_succ,List.set_cons_zero,List.range_succ,List.map_append,List.append_assoc]
  rfl
theorem Sum_tail{m ws bl a b:List Int}{n nn:Int}{z:List Int}(I:HInv (m++[128]) ws bl n)(hnn:nn=(m.length:Int))(hm:m.length<=1000000000):∀ (q t k:Nat) (tl:List Int) {K:List Int->List Int->List Int->Int->Prop},t+q=8->q+1000<=k->tl=List.replicate (pad64 m.length) 0++((List.range t).map (lenB m.length)++List.replicate (72-pad64 m.length-t) 0) →
  K (digL (absorb begin8 ((m++[128])++(List.replicate (pad64 m.length) 0++(List.range 8).map (lenB m.length))))) a b nn->C_sha_Hash_Sum_9 k ((pad64 m.length:Nat):Int) (t:Int) a b nn z (List.replicate 32 0) ws bl n tl K:=by
 have hp:pad64 m.length<64:=Nat.mod_lt _ (by decide)
 intro q
 induction q with
 | zero=>
  intro t k tl K ht hk htl hK
  obtain⟨k,rfl⟩:∃ m,k=m+1:=⟨k-1,by omega⟩
  rw[C_sha_Hash_Sum_9]
  simp only[Hold_eq]
  refine cond_dec (fun h1=>by omega) (fun h1=>?_)
  obtain rfl:t=8:=by omega
  have e1:IntKind.i64.wrap (((pad64 m.length:Nat):Int)+8)=((pad64 m.length+8:Nat):Int):=by rw[wrap64 (by omega)];rfl
  have ec:cut tl (Int.toNat 0) (Int.toNat (((pad64 m.length+8:Nat):Int)-0))=List.replicate (pad64 m.length) 0++(List.range 8).map (lenB m.length):=by
   rw[htl,<-List.append_assoc]
   show List.take _ (List.drop 0 _)=_
   rw[List.drop_zero,List.take_left' (by simp;omega)]
  rw[e1,ec]
  refine⟨by omega,Write_s k I (by simp;omega) (by simp;omega) fun ws' bl' n' I'=>?_⟩
  refine Sum_dig 32 0 k _ (by omega) (by omega) (by simp) ?_
  have e2:ws'=absorb begin8 ((m++[128])++(List.replicate (pad64 m.length) 0++(List.range 8).map (lenB m.length))):=by
   rw[absorb_cut];exact I'.we
  rw[e2];exact hK
 | succ q ih=>
  intro t k tl K ht hk htl hK
  obtain⟨k,rfl⟩:∃ m,k=m+1:=⟨k-1,by omega⟩
  rw[C_sha_Hash_Sum_9]
  simp only[Hold_eq]
  refine cond_dec (fun h1=>?_) (fun h1=>by omega)
  have e1:IntKind.i64.wrap (((pad64 m.length:Nat):Int)+(t:Int))=((pad64 m.length+t:Nat):Int):=by rw[wrap64 (by omega)];rfl
  have e3:IntKind.i64.wrap (56-IntKind.i64.wrap (8*(t:Int)))=56-8*(t:Int):=by rw[wrap64 (n:=8*(t:Int)) (by omega),wrap64 (by omega)]
  rw[e1,e3,step64 t (by omega)]
  simp only[Int.toNat_natCast]
  refine⟨by omega,by omega,ih (t+1) k _ (by omega) (by omega) ?_ hK⟩
  rw[htl,List.set_append_right _ _ (by simp),List.length_replicate,Nat.add_sub_cancel_left,List.set_append_right _ _ (by simp),List.length_map,List.length_range,Nat.sub_self]
  obtain⟨r,hr⟩:∃ r,72-pad64 m.length-t=r+1:=⟨72-pad64 m.length-t-1,by omega⟩
  rw[hr,show 72-pad64 m.length-(t+1)=r by omega,List.replicate_succ,List.set_cons_zero,List.range_succ,List.map_append,List.append_assoc,hnn]
  rfl
theorem Sum_s(k:Nat){m ws bl:List Int}{n:Int}{K:List Int->List Int->List Int->Int->Prop}(I:HInv m ws bl n)(hm:m.length<=1000000000)(hk:2000<=k)(hK:K (shaL m) ws bl n):F_sha_Hash_Sum k ws bl n K:=by
 obtain⟨k,rfl⟩:∃ m,k=m+1:=⟨k-1,by omega⟩
 rw[F_sha_Hash_Sum]
 simp only[Hold_eq]
 refine Write_s k I (by simp;omega) (by simp;omega) fun ws' bl' n' I'=>⟨by decide,by decide,?_⟩
 have e1:Int.tmod (IntKind.i64.wrap (120-Int.tmod n' 64)) 64=((pad64 m.length:Nat):Int):=by
  rw[I'.ne,List.length_append]
  show Int.tmod (IntKind.i64.wrap (120-(((m.length+1) % 64:Nat):Int))) 64=_
  rw[wrap64 (by omega),show (120:Int)-(((m.length+1) % 64:Nat):Int)=((120-(m.length+1) % 64:Nat):Int) by omega]
  rfl
 rw[e1]
 refine Sum_tail I' I.ne hm 8 0 k _ (by omega) (by omega) ?_ ?_
 ·have hp:pad64 m.length<64:=Nat.mod_lt _ (by decide)
  rw[List.range_zero,List.map_nil,List.nil_append,List.replicate_append_replicate]
  congr 1
  omega
 ·unfold shaL tailOf at hK
  rw[List.append_assoc]
  exact hK
theorem sha_Sum_s(k:Nat){m:List Int}{K:List Int->Prop}(hm:m.length<=1000000000)(hk:m.length+3000<=k)(hK:K (shaL m)):F_sha_Sum k m K:=by
 obtain⟨k,rfl⟩:∃ m,k=m+1:=⟨k-1,by omega⟩
 rw[F_sha_Sum]
 simp only[Hold_eq]
 refine sha_New_s k (by omega) (Write_s k New_inv (by simp;omega) (by omega) fun ws' bl' n' I'=>Sum_s k (by simpa using I') hm (by omega) hK)
theorem r02_add{x z:List Int}:∀ (m t k:Nat) (ws:List Int) {K:List Int->Prop},t+m=8->m+1<=k->K (addGo x m t ws)->C_r02_block_22 k (t:Int) ws z x K:=by
 intro m
 induction m with
 | zero=>
  intro t k ws K ht hk h
  obtain⟨k,rfl⟩:∃ m,k=m+1:=⟨k-1,by omega⟩
  rw[C_r02_block_22]
  exact cond_dec (fun h1=>by omega) (fun h1=>h)
 | succ m ih=>
  intro t k ws K ht hk h
  obtain⟨k,rfl⟩:∃ m,k=m+1:=⟨k-1,by omega⟩
  rw[C_r02_block_22]
  simp only[Hold_eq]
  refine cond_dec (fun h1=>?_) (fun h1=>by omega)
  rw[step64 t (by omega),Int.toNat_natCast]
  exact⟨by omega,by omega,by omega,ih (t+1) k _ (by omega) (by omega) h⟩
theorem r02_rounds{w ws z:List Int}:∀ (m t k:Nat) (a b c d e f g h:Int) {K:List Int->Prop},t+m=64->m+20<=k->K (addGo (rounds w m t a b c d e f g h) 8 0 ws)->C_r02_block_14 k (t:Int) ws z w [a,b,c,d,e,f,g,h] K:=by
 intro m
 induction m with
 | zero=>
  intro t k a b c d e f g h K ht hk hK
  obtain⟨k,rfl⟩:∃ m,k=m+1:=⟨k-1,by omega⟩
  rw[C_r02_block_14]
  simp only[Hold_eq]
  exact cond_dec (fun h1=>by omega) (fun h1=>r02_add 8 0 k ws (by omega) (by omega) hK)
 | succ m ih=>
  intro t k a b c d e f g h K ht hk hK
  obtain⟨k,rfl⟩:∃ m,k=m+1:=⟨k-1,by omega⟩
  rw[C_r02_block_14]
  have t0:Int.toNat (0:Int)=0:=rfl
  have t1:Int.toNat (1:Int)=1:=rfl
  have t2:Int.toNat (2:Int)=2:=rfl
  have t3:Int.toNat (3:Int)=3:=rfl
  have t4:Int.toNat (4:Int)=4:=rfl
  have t5:Int.toNat (5:Int)=5:=rfl
  have t6:Int.toNat (6:Int)=6:=rfl
  have t7:Int.toNat (7:Int)=7:=rfl
  have g0:List.getD [a,b,c,d,e,f,g,h] 0 0=a:=rfl
  have g1:List.getD [a,b,c,d,e,f,g,h] 1 0=b:=rfl
  have g2:List.getD [a,b,c,d,e,f,g,h] 2 0=c:=rfl
  have g3:List.getD [a,b,c,d,e,f,g,h] 3 0=d:=rfl
  have g4:List.getD [a,b,c,d,e,f,g,h] 4 0=e:=rfl
  have g5:List.getD [a,b,c,d,e,f,g,h] 5 0=f:=rfl
  have g6:List.getD [a,b,c,d,e,f,g,h] 6 0=g:=rfl
  have g7:List.getD [a,b,c,d,e,f,g,h] 7 0=h:=rfl
  simp only[Hold_eq,t0,t1,t2,t3,t4,t5,t6,t7,g0,g1,g2,g3,g4,g5,g6,g7,ch_eq,maj_eq,Int.toNat_natCast]
  refine cond_dec (fun h1=>⟨by decide,by decide,by decide,?_⟩) (fun h1=>by omega)
  refine turned_s (n:=6) (by decide) k (by omega) (turned_s (n:=11) (by decide) k (by omega) (turned_s (n:=25) (by decide) k (by omega) ⟨by decide,by decide,by decide,?_⟩))
  refine turned_s (n:=2) (by decide) k (by omega) (turned_s (n:=13) (by decide) k (by omega) (turned_s (n:=22) (by decide) k (by omega) ?_))
  rw[step64 t (by omega)]
  refine⟨by decide,by decide,by decide,by decide,by decide,by omega,by omega,by decide,by decide,by decide,by decide,by decide,by decide,by decide,by decide,by decide,by decide,by decide,by decide,by decide,?_⟩
  exact ih (t+1) k _ _ _ _ _ _ _ _ (by omega) (by omega) hK
theorem eight:∀ {ws:List Int},ws.length=8->∃ a b c d e f g h,ws=[a,b,c,d,e,f,g,h]
 | [a,b,c,d,e,f,g,h],_=>⟨a,b,c,d,e,f,g,h,rfl⟩
theorem next_eq(x y z u:Int):IntKind.u32.wrap (IntKind.u32.wrap (IntKind.u32.wrap (x+y)+z)+u)=IntKind.u32.wrap (IntKind.u32.wrap (IntKind.u32.wrap (u+z)+y)+x):=by
 simp only[wrap_add]
 congr 1
 omega
theorem r02_sched{ws z:List Int}(hws:ws.length=8):∀ (m t k:Nat) (w:List Int) {K:List Int->Prop},t+m=64->16<=t->m+100<=k →
  K (addGo (rounds (schedGo m t w) 64 0 (ws.getD 0 0) (ws.getD 1 0) (ws.getD 2 0) (ws.getD 3 0) (ws.getD 4 0) (ws.getD 5 0) (ws.getD 6 0) (ws.getD 7 0)) 8 0 ws)->C_r02_block_7 k (t:Int) ws z w K:=by
 intro m
 induction m with
 | zero=>
  intro t k w K ht h16 hk hK
  obtain⟨k,rfl⟩:∃ m,k=m+1:=⟨k-1,by omega⟩
  rw[C_r02_block_7]
  simp only[Hold_eq]
  refine cond_dec (fun h1=>by omega) (fun h1=>?_)
  obtain⟨a,b,c,d,e,f,g,h,rfl⟩:=eight hws
  ·have g0:List.getD [a,b,c,d,e,f,g,h] 0 0=a:=rfl
   have g1:List.getD [a,b,c,d,e,f,g,h] 1 0=b:=rfl
   have g2:List.getD [a,b,c,d,e,f,g,h] 2 0=c:=rfl
   have g3:List.getD [a,b,c,d,e,f,g,h] 3 0=d:=rfl
   have g4:List.getD [a,b,c,d,e,f,g,h] 4 0=e:=rfl
   have g5:List.getD [a,b,c,d,e,f,g,h] 5 0=f:=rfl
   have g6:List.getD [a,b,c,d,e,f,g,h] 6 0=g:=rfl
   have g7:List.getD [a,b,c,d,e,f,g,h] 7 0=h:=rfl
   rw[g0,g1,g2,g3,g4,g5,g6,g7] at hK
   exact r02_rounds 64 0 k a b c d e f g h (by omega) (by omega) hK
 | succ m ih=>
  intro t k w K ht h16 hk hK
  obtain⟨k,rfl⟩:∃ m,k=m+1:=⟨k-1,by omega⟩
  rw[C_r02_block_7]
  simp only[Hold_eq]
  refine cond_dec (fun h1=>?_) (fun h1=>by omega)
  have e (j:Nat) (hj:j<=16):IntKind.i64.wrap ((t:Int)-(j:Int))=((t-j:Nat):Int):=by rw[wrap64 (by omega)];omega
  have e15:=e 15 (by omega)
  have e2:=e 2 (by omega)
  have e16:=e 16 (by omega)
  have e7:=e 7 (by omega)
  simp only[Int.reduceOfNat,Int.cast_ofNat_Int] at e15 e2 e16 e7
  rw[e15,e2,e16,e7]
  simp only[Int.toNat_natCast]
  refine⟨by omega,by omega,by omega,by decide,?_⟩
  refine turned_s (n:=7) (by decide) k (by omega) (turned_s (n:=18) (by decide) k (by omega) ⟨by omega,by omega,by omega,by decide,?_⟩)
  refine turned_s (n:=17) (by decide) k (by omega) (turned_s (n:=19) (by decide) k (by omega) ⟨by omega,by omega,by omega,?_⟩)
  rw[step64 t (by omega),next_eq]
  exact ih (t+1) k _ (by omega) (by omega) (by omega) hK
theorem r02_words{ws z bl:List Int}(hws:ws.length=8)(hb:B8 bl)(hbl:bl.length=64):∀ (m t k:Nat) (w:List Int) {K:List Int->Prop},t+m=16->m+200<=k →
  K (addGo (rounds (schedGo 48 16 (wordsGo bl m t w)) 64 0 (ws.getD 0 0) (ws.getD 1 0) (ws.getD 2 0) (ws.getD 3 0) (ws.getD 4 0) (ws.getD 5 0) (ws.getD 6 0) (ws.getD 7 0)) 8 0 ws)->C_r02_block_3 k bl (t:Int) ws z w K:=by
 intro m
 induction m with
 | zero=>
  intro t k w K ht hk hK
  obtain⟨k,rfl⟩:∃ m,k=m+1:=⟨k-1,by omega⟩
  rw[C_r02_block_3]
  simp only[Hold_eq]
  refine cond_dec (fun h1=>by omega) (fun h1=>?_)
  obtain rfl:t=16:=by omega
  exact r02_sched hws 48 16 k w (by omega) (by omega) (by omega) hK
 | succ m ih=>
  intro t k w K ht hk hK
  obtain⟨k,rfl⟩:∃ m,k=m+1:=⟨k-1,by omega⟩
  rw[C_r02_block_3]
  simp only[Hold_eq]
  refine cond_dec (fun h1=>?_) (fun h1=>by omega)
  have e:IntKind.i64.wrap (4*(t:Int))=((4*t:Nat):Int):=by rw[wrap64 (by omega)];rfl
  have e1:IntKind.i64.wrap (((4*t:Nat):Int)+1)=((4*t+1:Nat):Int):=by rw[wrap64 (by omega)];rfl
  have e2:IntKind.i64.wrap (((4*t:Nat):Int)+2)=((4*t+2:Nat):Int):=by rw[wrap64 (by omega)];rfl
  have e3:IntKind.i64.wrap (((4*t:Nat):Int)+3)=((4*t+3:Nat):Int):=by rw[wrap64 (by omega)];rfl
  have hx:∀ j,j<64->0<=bl.getD j 0/\bl.getD j 0<=255:=fun j hj=>by rw[getD_at (by omega)];exact hb _ (List.getElem_mem _)
  rw[e,e1,e2,e3,step64 t (by omega)]
  simp only[Int.toNat_natCast]
  rw[word_sum (hx _ (by omega)) (hx _ (by omega)) (hx _ (by omega)) (hx _ (by omega))]
  exact⟨by omega,by decide,by omega,by decide,by omega,by decide,by omega,by omega,ih (t+1) k _ (by omega) (by omega) hK⟩
theorem r02_block_s(k:Nat){ws bl:List Int}{K:List Int->Prop}(hws:ws.length=8)(hb:B8 bl)(hbl:bl.length=64)(hk:300<=k)(hK:K (comp ws bl)):F_r02_block k ws bl K:=by
 obtain⟨k,rfl⟩:∃ m,k=m+1:=⟨k-1,by omega⟩
 rw[F_r02_block]
 simp only[Hold_eq]
 exact r02_words hws hb hbl 16 0 k _ (by omega) (by omega) hK
theorem r02_dig{ws z:List Int}:∀ (m t k:Nat) (d:List Int) {K:List Int->Prop},t+m=32->m+1<=k->d=(List.range t).map (digB ws)++List.replicate m 0->K (digL ws)->C_r02_Sum_9 k (t:Int) z ws d K:=by
 intro m
 induction m with
 | zero=>
  intro t k d K ht hk hd hK
  obtain⟨k,rfl⟩:∃ m,k=m+1:=⟨k-1,by omega⟩
  rw[C_r02_Sum_9]
  refine cond_dec (fun h1=>by omega) (fun h1=>?_)
  obtain rfl:t=32:=by omega
  rw[hd]
  simpa[digL] using hK
 | succ m ih=>
  intro t k d K ht hk hd hK
  obtain⟨k,rfl⟩:∃ m,k=m+1:=⟨k-1,by omega⟩
  rw[C_r02_Sum_9]
  simp only[Hold_eq]
  refine cond_dec (fun h1=>?_) (fun h1=>by omega)
  have e1:IntKind.i64.wrap (Int.tdiv (t:Int) 4)=((t / 4:Nat):Int):=by rw[show Int.tdiv (t:Int) 4=((t / 4:Nat):Int) from rfl,wrap64 (by omega)]
  have e2:Int.tmod (t:Int) 4=((t % 4:Nat):Int):=rfl
  have e3:IntKind.i64.wrap (24-IntKind.i64.wrap (8*((t % 4:Nat):Int)))=24-8*((t % 4:Nat):Int):=by rw[wrap64 (n:=8*((t % 4:Nat):Int)) (by omega),wrap64 (by omega)]
  rw[e1,e2,e3,step64 t (by omega)]
  simp only[Int.toNat_natCast]
  refine⟨by decide,by omega,by decide,by omega,by omega,ih (t+1) k _ (by omega) (by omega) ?_ hK⟩
  rw[hd,List.set_append_right _ _ (by simp),List.length_map,List.length_range,Nat.sub_self,List.replicate_succ,List.set_cons_zero,List.range_succ,List.map_append,List.append_assoc]
  rfl
theorem r02_blocks{m z:List Int}(hm:B8 m)(hlen:m.length<=2000000000):∀ (q t k:Nat) (ws:List Int) {K:List Int->Prop},m.length=64*(t+q)->ws.length=8->q+500<=k->K (digL (absorb ws (m.drop (64*t))))->C_r02_Sum_4 k ((64*t:Nat):Int) (List.replicate 32 0) m ws K:=by
 intro q
 induction q with
 | zero=>
  intro t k ws K ht hws hk hK
  obtain⟨k,rfl⟩:∃ m,k=m+1:=⟨k-1,by omega⟩
  rw[C_r02_Sum_4]
  simp only[Hold_eq]
  refine cond_dec (fun h1=>by omega) (fun h1=>r02_dig 32 0 k _ (by omega) (by omega) (by simp) ?_)
  rw[absorb_short (by rw[List.length_drop];omega)] at hK
  exact hK
 | succ q ih=>
  intro t k ws K ht hws hk hK
  obtain⟨k,rfl⟩:∃ m,k=m+1:=⟨k-1,by omega⟩
  rw[C_r02_Sum_4]
  simp only[Hold_eq]
  have e:IntKind.i64.wrap (((64*t:Nat):Int)+64)=((64*(t+1):Nat):Int):=by rw[wrap64 (by omega)];omega
  have ec:cut m (64*t) (Int.toNat (((64*(t+1):Nat):Int)-((64*t:Nat):Int)))=(m.drop (64*t)).take 64:=by
   rw[show Int.toNat (((64*(t+1):Nat):Int)-((64*t:Nat):Int))=64 by omega];rfl
  rw[e,Int.toNat_natCast,ec]
  refine cond_dec (fun h1=>⟨by omega,r02_block_s k hws ((hm.drop _).take _) (by rw[List.length_take,List.length_drop];omega) (by omega) ?_⟩) (fun h1=>by omega)
  refine ih (t+1) k _ (by omega) (by rw[comp_len];exact hws) (by omega) ?_
  rw[absorb_long (by rw[List.length_drop];omega),List.drop_drop,show 64*t+64=64*(t+1) by omega] at hK
  exact hK
theorem r02_pad8{n:Nat}{bits:Int}(hbits:bits=IntKind.u64.wrap (IntKind.u64.wrap (n:Int)*8)):∀ (q:Nat) (k:Nat) (acc:List Int) {K:List Int->Prop},q<=8->q+1<=k->acc.length+q<=1000000200->K (acc++((List.range 8).drop (8-q)).map (lenB n))->C_r02_Padded_8 k bits ((q:Int)-1) acc K:=by
 intro q
 induction q with
 | zero=>
  intro k acc K hq hk ha hK
  obtain⟨k,rfl⟩:∃ m,k=m+1:=⟨k-1,by omega⟩
  rw[C_r02_Padded_8]
  refine cond_dec (fun h1=>by omega) (fun h1=>?_)
  have e:(List.range 8).drop (8-0)=[]:=rfl
  rw[e,List.map_nil,List.append_nil] at hK
  exact hK
 | succ q ih=>
  intro k acc K hq hk ha hK
  obtain⟨k,rfl⟩:∃ m,k=m+1:=⟨k-1,by omega⟩
  rw[C_r02_Padded_8]
  simp only[Hold_eq]
  have e0:((q+1:Nat):Int)-1=(q:Int):=by omega
  have e1:IntKind.i64.wrap (8*(q:Int))=8*(q:Int):=wrap64 (by omega)
  have e2:IntKind.i64.wrap ((q:Int)-1)=(q:Int)-1:=wrap64 (by omega)
  have e3:IntKind.u8.wrap (ishr .u64 bits (8*(q:Int)))=lenB n (7-q):=by
   unfold lenB
   rw[hbits]
   congr 2
   omega
  rw[e0,e1,e2,e3]
  clear e1 e2 e3
  refine cond_dec (fun h1=>⟨by omega,by unfold room;simp only[List.length_cons,List.length_nil];omega,?_⟩) (fun h1=>by omega)
  refine ih k _ (by omega) (by omega) (by simp only[List.length_append,List.length_cons,List.length_nil];omega) ?_
  rw[drop_cons (by simp;omega:8-(q+1)<(List.range 8).length)] at hK
  rw[List.getElem_range,show 8-(q+1)+1=8-q by omega,show 8-(q+1)=7-q by omega,List.map_cons] at hK
  rw[List.append_assoc,List.singleton_append]
  exact hK
theorem r02_pad0{m:List Int}(hm:m.length<=1000000000):∀ (q:Nat) (k:Nat) (acc:List Int) {K:List Int->Prop},(acc.length+q) % 64=56->q<64->acc.length+q<=1000000080->q+20<=k->K (acc++(List.replicate q 0++(List.range 8).map (lenB m.length)))->C_r02_Padded_4 k m acc K:=by
 intro q
 induction q with
 | zero=>
  intro k acc K hq hq2 ha hk hK
  obtain⟨k,rfl⟩:∃ m,k=m+1:=⟨k-1,by omega⟩
  rw[C_r02_Padded_4]
  simp only[Hold_eq]
  refine⟨by decide,cond_ndec (fun h1=>?_) (fun h1=>r02_pad8 (n:=m.length) rfl 8 k acc (by omega) (by omega) (by omega) (by simpa using hK))⟩
  rw[show Int.tmod (acc.length:Int) 64=((acc.length % 64:Nat):Int) from rfl] at h1
  omega
 | succ q ih=>
  intro k acc K hq hq2 ha hk hK
  obtain⟨k,rfl⟩:∃ m,k=m+1:=⟨k-1,by omega⟩
  rw[C_r02_Padded_4]
  simp only[Hold_eq]
  refine⟨by decide,cond_ndec (fun h1=>⟨by unfold room;simp only[List.length_cons,List.length_nil];omega,?_⟩) (fun h1=>?_)⟩
  ·refine ih k _ (by simp only[List.length_append,List.length_cons,List.length_nil];omega) (by omega) (by simp only[List.length_append,List.length_cons,List.length_nil];omega) (by omega) ?_
   rw[List.append_assoc,List.singleton_append]
   rw[List.replicate_succ,List.cons_append] at hK
   exact hK
  ·rw[show Int.tmod (acc.length:Int) 64=((acc.length % 64:Nat):Int) from rfl] at h1
   omega
theorem tail_eq(n:Nat):tailOf n=128::(List.replicate (pad64 n) 0++(List.range 8).map (lenB n)):=rfl
theorem pad64_mod(n:Nat):(n+1+pad64 n) % 64=56/\pad64 n<64:=by unfold pad64;omega
theorem tail_B8(n:Nat):B8 (tailOf n):=by
 rw[tail_eq]
 refine B8.cons (by decide) (B8.append (fun x hx=>by have:=List.eq_of_mem_replicate hx;omega) fun x hx=>?_)
 simp only[List.mem_map] at hx
 obtain⟨i,-,rfl⟩:=hx
 exact wrap8_B _
theorem tail_len(n:Nat):(n+(tailOf n).length) % 64=0/\(tailOf n).length<100:=by
 rw[tail_eq]
 simp only[List.length_cons,List.length_append,List.length_replicate,List.length_map,List.length_range]
 have:=pad64_mod n
 omega
theorem r02_Sum_s(k:Nat){m:List Int}{K:List Int->Prop}(hb:B8 m)(hm:m.length<=1000000000)(hk:m.length+3000<=k)(hK:K (shaL m)):F_r02_Sum k m K:=by
 obtain⟨k,rfl⟩:∃ m,k=m+2:=⟨k-2,by omega⟩
 rw[F_r02_Sum]
 simp only[Hold_eq]
 rw[F_r02_Padded]
 simp only[Hold_eq]
 have hp:=pad64_mod m.length
 refine⟨by unfold room;omega,by unfold room;simp only[List.length_cons,List.length_nil];omega,?_⟩
 refine r02_pad0 hm (pad64 m.length) k _ (by simp only[List.length_append,List.length_cons,List.length_nil];omega) hp.2 (by simp only[List.length_append,List.length_cons,List.length_nil];omega) (by omega) ?_
 rw[F_r02_begin,List.append_assoc,List.singleton_append,<-tail_eq]
 have ht:=tail_len m.length
 refine r02_blocks (z:=[]) (hb.append (tail_B8 _)) (by rw[List.length_append];omega) ((m++tailOf m.length).length / 64) 0 (k+1) begin8 ?_ rfl ?_ hK
 ·rw[Nat.zero_add,List.length_append];omega
 ·rw[List.length_append];omega
end Go.V
