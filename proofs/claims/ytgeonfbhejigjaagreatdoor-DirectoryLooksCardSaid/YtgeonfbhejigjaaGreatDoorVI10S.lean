import Derived.Test.YtgeonfbhejigjaaGreatDoorVI10A
import Derived.Test.YtgeonfbhejigjaaGreatDoorVJ09
set_option linter.unusedVariables false
set_option linter.unusedSimpArgs false
set_option maxRecDepth 4000
namespace Go.V
theorem width_s(k:Nat){w:Int}{K:Bool->Prop}(hk:1<=k)(h:K (decide (0<=w/\w<=32))):F_smt_width k w K:=by
 obtain⟨k,rfl⟩:∃ m,k=m+1:=⟨k-1,by omega⟩
 rw[F_smt_width]
 refine cond_dec (fun h1=>?_) (fun h1=>?_)
 ·simpa[h1] using h
 ·simpa[h1] using h
theorem short_eq{W:Nat}{d:List Int}(hW:W<=32)(hd:d.length=32) :
  splice z32 (Int.toNat 0) (cut d (Int.toNat 0) (Int.toNat (32-0))) (Nat.min (List.length (cut d (Int.toNat 0) (Int.toNat (32-0)))) (Int.toNat ((W:Int)-0)))=d.take W++List.replicate (32-W) 0:=by
 rw[show cut d (Int.toNat 0) (Int.toNat (32-0))=d from cut_all _ (by rw[hd];decide),hd]
 have:Nat.min 32 (Int.toNat ((W:Int)-0))=W:=by
  rw[show Int.toNat ((W:Int)-0)=W by omega];exact Nat.min_eq_right hW
 rw[this]
 show List.take 0 z32++(d.take W++z32.drop (0+W))=_
 rw[Nat.zero_add]
 simp
theorem smt_short_s(k:Nat){W:Nat}{d:List Int}{K:List Int->Prop}(hW:W<=32)(hd:d.length=32)(hk:3<=k)(h:K (d.take W++List.replicate (32-W) 0)):F_smt_short k (W:Int) d K:=by
 obtain⟨k,rfl⟩:∃ m,k=m+2:=⟨k-2,by omega⟩
 rw[F_smt_short]
 simp only[Hold_eq]
 refine width_s (k+1) (by omega) ?_
 rw[decide_eq_true (by omega),cond_true]
 refine⟨by omega,by decide,?_⟩
 rw[C_smt_short_4,short_eq hW hd]
 exact h
theorem summed_loop{W:Nat}{z:List Int}{l:List (List Int)}(hW:W<=32)(hl:∀ d∈l,Dig d)(hn:l.length<=10):∀ (m j k:Nat) {ms ws bl:List Int} {n:Int} {K:List Int->Prop},HInv ms ws bl n->j+m=l.length->1000*m+3100<=k->ms.length+32*m<=1000 →
  K (shortL W (ms++(l.drop j).flatten))->C_smt_summed_4 k (W:Int) l (l.length:Int) (j:Int) z ws bl n K:=by
 intro m
 induction m with
 | zero=>
  intro j k ms ws bl n K I hj hk hm h
  obtain⟨k,rfl⟩:∃ m,k=m+1:=⟨k-1,by omega⟩
  rw[C_smt_summed_4]
  simp only[Hold_eq]
  refine cond_dec (fun h1=>by omega) (fun h1=>?_)
  rw[List.drop_of_length_le (by omega),List.flatten_nil,List.append_nil] at h
  exact Sum_s k I (by omega) (by omega) (smt_short_s k hW (shaL_dig _).1 (by omega) h)
 | succ m ih=>
  intro j k ms ws bl n K I hj hk hm h
  obtain⟨k,rfl⟩:∃ m,k=m+1:=⟨k-1,by omega⟩
  rw[C_smt_summed_4]
  simp only[Hold_eq]
  refine cond_dec (fun h1=>?_) (fun h1=>by omega)
  have hj2:j<l.length:=by omega
  have hd:=hl l[j] (List.getElem_mem hj2)
  rw[step64 j (by omega),Int.toNat_natCast,getD_at hj2,show cut l[j] (Int.toNat 0) (Int.toNat (32-0))=l[j] from cut_all _ (by rw[hd.1];decide)]
  refine⟨⟨by omega,by omega⟩,⟨by decide,by decide,by decide⟩,Write_s k I (by rw[hd.1];omega) (by rw[hd.1];omega) fun ws' bl' n' I'=>ih (j+1) k I' (by omega) (by omega) (by rw[List.length_append,hd.1];omega) ?_⟩
  rw[drop_cons hj2,List.flatten_cons] at h
  simpa using h
theorem summed_s(k:Nat){W:Nat}{mark:Int}{l:List (List Int)}{K:List Int->Prop}(hW:W<=32)(hl:∀ d∈l,Dig d)(hn:l.length<=2)(hk:6000<=k)(h:K (shortL W (mark::l.flatten))):F_smt_summed k (W:Int) mark l K:=by
 obtain⟨k,rfl⟩:∃ m,k=m+1:=⟨k-1,by omega⟩
 rw[F_smt_summed]
 simp only[Hold_eq]
 refine sha_New_s k (by omega) (Write_s k New_inv (by simp) (by simp;omega) fun ws' bl' n' I'=>?_)
 exact summed_loop (ms:=[mark]) hW hl (by omega) l.length 0 k (by simpa using I') (by omega) (by omega) (by simp;omega) (by simpa using h)
theorem Empty_s(k:Nat){W:Nat}{K:List Int->Prop}(hW:W<=32)(hk:6010<=k)(h:K (shortL W [2])):F_smt_Empty k (W:Int) K:=by
 obtain⟨k,rfl⟩:∃ m,k=m+1:=⟨k-1,by omega⟩
 rw[F_smt_Empty]
 simp only[Hold_eq]
 exact summed_s k hW (by simp) (by simp) (by omega) (by simpa using h)
theorem Leaf_s(k:Nat){W:Nat}{p v:List Int}{K:List Int->Prop}(hW:W<=32)(hp:Dig p)(hv:Dig v)(hk:6010<=k)(h:K (shortL W (0::(p++v)))):F_smt_Leaf k (W:Int) p v K:=by
 obtain⟨k,rfl⟩:∃ m,k=m+1:=⟨k-1,by omega⟩
 rw[F_smt_Leaf]
 simp only[Hold_eq]
 exact summed_s k hW (by simp[hp,hv]) (by simp) (by omega) (by simpa using h)
theorem Node_s(k:Nat){W:Nat}{p v:List Int}{K:List Int->Prop}(hW:W<=32)(hp:Dig p)(hv:Dig v)(hk:6010<=k)(h:K (shortL W (1::(p++v)))):F_smt_Node k (W:Int) p v K:=by
 obtain⟨k,rfl⟩:∃ m,k=m+1:=⟨k-1,by omega⟩
 rw[F_smt_Node]
 simp only[Hold_eq]
 exact summed_s k hW (by simp[hp,hv]) (by simp) (by omega) (by simpa using h)
theorem tdiv8(i:Nat):Int.tdiv (i:Int) 8=((i / 8:Nat):Int):=by rfl
theorem tmod8(i:Nat):Int.tmod (i:Int) 8=((i % 8:Nat):Int):=by rfl
theorem tdiv2(i:Nat):Int.tdiv (i:Int) 2=((i / 2:Nat):Int):=by rfl
theorem tmod2(i:Nat):Int.tmod (i:Int) 2=((i % 2:Nat):Int):=by rfl
theorem path_Bit_s(k:Nat){p:List Int}{i:Nat}{K:Int->Int->Prop}(hp:Dig p)(hi:i<256)(hk:2<=k)(h:K (bitN p i) 0):F_path_Bit k p (i:Int) K:=by
 obtain⟨k,rfl⟩:∃ m,k=m+2:=⟨k-2,by omega⟩
 rw[F_path_Bit]
 simp only[Hold_eq]
 refine cond_dec (fun h1=>by omega) (fun h1=>cond_dec (fun h2=>by omega) (fun h2=>?_))
 rw[tdiv8,wrap64 (by omega),F_path_mask,tmod8,wrap64 (by omega),Int.toNat_natCast]
 refine⟨by decide,by omega,by decide,by omega,?_⟩
 have hj:i / 8<p.length:=by rw[hp.1];omega
 have hx:=hp.2 p[i / 8] (List.getElem_mem hj)
 rw[getD_at hj,show (7:Int)-((i % 8:Nat):Int)=((7-i % 8:Nat):Int) by omega]
 have e:bitN p i=p[i / 8].toNat / 2 ^ (7-i % 8) % 2:=by unfold bitN;rw[getD_at hj]
 rw[e] at h
 refine cond_ndec (fun h3=>?_) (fun h3=>?_)
 ·have:=fun g=>h3 ((mask_bit hx (by omega)).2 g)
  rcases Nat.mod_two_eq_zero_or_one (p[i / 8].toNat / 2 ^ (7-i % 8)) with g|g
  ·exact absurd g this
  ·rw[g] at h;exact h
 ·rw[(mask_bit hx (by omega)).1 h3] at h;exact h
theorem right_s(k:Nat){p:List Int}{i:Nat}{K:Bool->Prop}(hp:Dig p)(hi:i<256)(hk:3<=k)(h:K (decide (bitN p i=1))):F_smt_right k p (i:Int) K:=by
 obtain⟨k,rfl⟩:∃ m,k=m+1:=⟨k-1,by omega⟩
 rw[F_smt_right]
 simp only[Hold_eq]
 refine path_Bit_s k hp hi (by omega) ?_
 rw[decide_eq_decide.2 (by omega:((bitN p i:Nat):Int)=1↔bitN p i=1)]
 exact h
theorem cmp_byte_s(k:Nat){x y:Int}{K:Int->Prop}(hk:2<=k)(h:K (if x<y then -1 else if y<x then 1 else 0)):F_cmp_Compare_byte k x y K:=by
 obtain⟨k,rfl⟩:∃ m,k=m+2:=⟨k-2,by omega⟩
 rw[F_cmp_Compare_byte]
 simp only[Hold_eq]
 simp only[F_cmp_isNaN_byte,decide_true,Bool.not_true,cond_false]
 refine cond_dec (fun h1=>?_) (fun h1=>cond_dec (fun h2=>?_) (fun h2=>?_))
 ·rw[if_pos h1] at h;exact h
 ·rw[if_neg h1,if_pos h2] at h;exact h
 ·rw[if_neg h1,if_neg h2] at h;exact h
theorem Compare_loop{a b:List Int}(ha:a.length=32)(hb:b.length=32):∀ (m j k:Nat) {K:Int->Prop},j+m=32->m+5<=k->K (cmpL (a.drop j) (b.drop j))->C_slices_Compare_byte_byte_2 k a b a (a.length:Int) (j:Int) K:=by
 intro m
 induction m with
 | zero=>
  intro j k K hj hk h
  obtain⟨k,rfl⟩:∃ m,k=m+1:=⟨k-1,by omega⟩
  rw[C_slices_Compare_byte_byte_2]
  simp only[Hold_eq]
  refine cond_dec (fun h1=>by omega) (fun h1=>cond_dec (fun h2=>by omega) (fun h2=>?_))
  rw[List.drop_of_length_le (by omega),List.drop_of_length_le (by omega)] at h
  exact h
 | succ m ih=>
  intro j k K hj hk h
  obtain⟨k,rfl⟩:∃ m,k=m+1:=⟨k-1,by omega⟩
  rw[C_slices_Compare_byte_byte_2]
  simp only[Hold_eq]
  refine cond_dec (fun h1=>?_) (fun h1=>by omega)
  have hja:j<a.length:=by omega
  have hjb:j<b.length:=by omega
  refine⟨by omega,cond_dec (fun h2=>by omega) (fun h2=>⟨by omega,cmp_byte_s k (by omega) ?_⟩)⟩
  rw[Int.toNat_natCast,getD_at hja,getD_at hjb,step64 j (by omega)]
  rw[drop_cons hja,drop_cons hjb,cmpL] at h
  by_cases h3:a[j]<b[j]
  ·rw[if_pos h3] at h ⊢;exact h
  ·rw[if_neg h3] at h ⊢
   by_cases h4:b[j]<a[j]
   ·rw[if_pos h4] at h ⊢;exact h
   ·rw[if_neg h4] at h ⊢
    exact ih (j+1) k (by omega) (by omega) h
theorem cmp_s(k:Nat){p v q u:List Int}{K:Int->Prop}(hp:p.length=32)(hq:q.length=32)(hk:50<=k)(h:K (cmpL p q)):F_smt_twice_1 k p v q u K:=by
 obtain⟨k,rfl⟩:∃ m,k=m+2:=⟨k-2,by omega⟩
 rw[F_smt_twice_1]
 simp only[Hold_eq]
 refine⟨⟨by decide,by decide,by decide⟩,⟨by decide,by decide,by decide⟩,?_⟩
 rw[show cut p (Int.toNat 0) (Int.toNat (32-0))=p from cut_all _ (by rw[hp];decide),show cut q (Int.toNat 0) (Int.toNat (32-0))=q from cut_all _ (by rw[hq];decide),F_slices_Compare_byte_byte]
 simp only[Hold_eq]
 exact Compare_loop hp hq 32 0 k rfl (by omega) h
theorem Empty_i(k:Nat){w:Int}{K:List Int->Prop}(hw:0<=w/\w<=32)(hk:6010<=k)(h:K (digT w .nil)):F_smt_Empty k w K:=by
 obtain⟨W,rfl⟩:=Int.eq_ofNat_of_zero_le hw.1
 exact Empty_s k (by omega) hk (by simpa[digT] using h)
theorem digT_dig{w:Int}(hw:0<=w/\w<=32)(x:KT S_api_Leaf):Dig (digT w x):=by
 have h:∀ m,Dig (shortL w.toNat m):=fun m=>shortL_dig (by omega) m
 cases x with
 | nil=>exact h _
 | node g v l r=>
  simp only[digT]
  cases l.isNil&&r.isNil<;>exact h _
theorem digest_s(k:Nat){x:KT S_api_Leaf}{w:Int}{K:List Int->Prop}(hw:0<=w/\w<=32)(hG:allG w x)(hk:digBound x+1<=k)(h:K (digT w x)):F_smt_knot_digest k x w K:=by
 obtain⟨k,rfl⟩:∃ m,k=m+1:=⟨k-1,by omega⟩
 rw[F_smt_knot_digest]
 exact⟨⟨by omega,hw,hG⟩,h⟩
theorem digest_1_s(k:Nat){w g a b c:Int}{dl:List Int}{v:S_api_Leaf}{l r:KT S_api_Leaf}{K:Int->Int->Int->Int->List Int->List Int->List Int->KT S_api_Leaf->KT S_api_Leaf->Prop}(hw:0<=w/\w<=32)(hG:allG w (.node g v l r))(hk:digBound (.node g v l r)<=k)
  (h:K w a b c (digT w (.node g v l r)) v.f0 v.f1 l r):F_smt_knot_digest_1 k w a b c dl v.f0 v.f1 l r K:=by
 obtain⟨W,rfl⟩:=Int.eq_ofNat_of_zero_le hw.1
 obtain⟨-,⟨hp,hv⟩,hGl,hGr⟩:=hG
 unfold digBound at hk
 simp only[htT] at hk
 obtain⟨k,rfl⟩:∃ m,k=m+2:=⟨k-2,by omega⟩
 rw[F_smt_knot_digest_1]
 simp only[Hold_eq]
 rw[F_smt_knot_inner_s1]
 have inn:(l.isNil&&r.isNil)=false->F_smt_knot_digest (k+1) l (W:Int) (fun r19=>F_smt_knot_digest (k+1) r (W:Int) (fun r20=>F_smt_Node (k+1) (W:Int) r19 r20 (fun r21=>K (W:Int) a b c r21 v.f0 v.f1 l r))):=fun hn=>by
  refine digest_s (k+1) hw hGl (by unfold digBound;omega) (digest_s (k+1) hw hGr (by unfold digBound;omega) (Node_s (k+1) (by omega) (digT_dig hw l) (digT_dig hw r) (by omega) ?_))
  simp only[digT,hn,cond_false,Int.toNat_natCast] at h
  exact h
 have lf:(l.isNil&&r.isNil)=true->F_smt_Leaf (k+1) (W:Int) v.f0 v.f1 (fun r22=>K (W:Int) a b c r22 v.f0 v.f1 l r):=fun hn=>by
  refine Leaf_s (k+1) (by omega) hp hv (by omega) ?_
  simp only[digT,hn,cond_true,Int.toNat_natCast] at h
  exact h
 cases hl:l.isNil with
 | false=>
  simp only[Bool.not_false,cond_true]
  exact inn (by rw[hl];rfl)
 | true=>
  simp only[Bool.not_true,cond_false]
  cases hr:r.isNil with
  | false=>simp only[Bool.not_false,cond_true];exact inn (by rw[hl,hr];rfl)
  | true=>simp only[Bool.not_true,cond_false];exact lf (by rw[hl,hr];rfl)
end Go.V
