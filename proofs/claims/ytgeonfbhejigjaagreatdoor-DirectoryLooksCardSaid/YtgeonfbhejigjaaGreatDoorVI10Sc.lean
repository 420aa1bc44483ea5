import Derived.Test.YtgeonfbhejigjaaGreatDoorVI10Sb
set_option linter.unusedVariables false
set_option linter.unusedSimpArgs false
set_option maxRecDepth 8000
namespace Go.V
theorem r07_At_loop{l:List S_api_Version}{ep:Int}(hn:l.length<=100000){K:List S_api_Version->Prop}:∀ (m j k:Nat) (acc:List S_api_Version),j+m=l.length->m+1<=k->acc.length<=j →
  K (acc++(l.drop j).takeWhile fun v=>decide (v.f0<=ep))->C_r07_At_5 k l ep (j:Int) acc K:=by
 intro m
 induction m with
 | zero=>
  intro j k acc hj hk ha h
  obtain⟨k,rfl⟩:∃ m,k=m+1:=⟨k-1,by omega⟩
  rw[C_r07_At_5]
  rw[List.drop_of_length_le (by omega),List.takeWhile_nil,List.append_nil] at h
  exact cond_dec (fun h1=>by omega) (fun h1=>h)
 | succ m ih=>
  intro j k acc hj hk ha h
  obtain⟨k,rfl⟩:∃ m,k=m+1:=⟨k-1,by omega⟩
  have hjl:j<l.length:=by omega
  rw[C_r07_At_5]
  simp only[Hold_eq]
  rw[Int.toNat_natCast,getD_at hjl,step64 j (by omega)]
  rw[drop_cons hjl] at h
  refine cond_dec (fun _=>⟨⟨by omega,by omega⟩,cond_dec (fun g=>⟨⟨by omega,by omega⟩,by unfold room;simp only[List.length_cons,List.length_nil];omega,?_⟩) (fun g=>?_)⟩) (fun e=>by omega)
  ·refine ih (j+1) k _ (by omega) (by omega) (by simp;omega) ?_
   rw[List.takeWhile_cons_of_pos (p:=fun v:S_api_Version=>decide (v.f0<=ep)) (decide_eq_true g)] at h
   rw[List.append_assoc]
   exact h
  ·rw[List.takeWhile_cons_of_neg (by simp;omega),List.append_nil] at h
   exact h
theorem r07_At_s(k:Nat){l:List S_api_Version}{ep:Int}(hn:l.length<=100000){K:List S_api_Version->Prop}(hk:100100<=k)(h:K (atV l ep)):F_r07_At k l ep K:=by
 obtain⟨k,rfl⟩:∃ m,k=m+1:=⟨k-1,by omega⟩
 rw[F_r07_At]
 simp only[Hold_eq]
 unfold atV at h
 refine r07_Is_s k hn (by omega) (cond_nb (fun g=>?_) (fun g=>?_))
 ·rw[if_neg (by rw[g];decide)] at h;exact h
 ·rw[if_pos g] at h
  exact r07_At_loop hn l.length 0 k [] (by omega) (by omega) (by simp) (by rw[List.nil_append,List.drop_zero];exact h)
theorem atV_len(l:List S_api_Version)(ep:Int):(atV l ep).length<=l.length:=by
 unfold atV
 split
 ·exact takeWhile_le _ _
 ·simp
theorem r01_Bytes_s(k:Nat){s:ByteArray}{K:List Int->Int->Prop}(hs:s.size<=64)(hk:100<=k)(h:K (keyBytes s) 0):F_r01_Bytes k s K:=by
 obtain⟨k,rfl⟩:∃ m,k=m+1:=⟨k-1,by omega⟩
 rw[F_r01_Bytes]
 simp only[Hold_eq]
 refine cond_dec (fun e=>by omega) (fun _=>r01_Groups_s s.size k (by omega) (by omega) ⟨?_,h⟩)
 have:=grp_len200 (n:=s.size) (by omega)
 unfold room
 rw[bytesTo_len];omega
theorem r07_Bytes_loop{l:List S_api_Version}(hl:∀ v∈l,mayV v=true)(hn:l.length<=16){K:List Int->Prop}:∀ (m j k:Nat) (acc:List Int),j+m=l.length->m+2000<=k->acc.length+70*m<=100000->K (acc++((l.drop j).map verBytes).flatten) →
  C_r07_Bytes_3 k l (j:Int) acc K:=by
 intro m
 induction m with
 | zero=>
  intro j k acc hj hk ha h
  obtain⟨k,rfl⟩:∃ m,k=m+1:=⟨k-1,by omega⟩
  rw[C_r07_Bytes_3]
  simp only[Hold_eq]
  rw[List.drop_of_length_le (by omega),List.map_nil,List.flatten_nil,List.append_nil] at h
  exact cond_dec (fun e=>by omega) (fun _=>h)
 | succ m ih=>
  intro j k acc hj hk ha h
  obtain⟨k,rfl⟩:∃ m,k=m+1:=⟨k-1,by omega⟩
  have hjl:j<l.length:=by omega
  have hm:=hl l[j] (List.getElem_mem hjl)
  obtain⟨h1,h2,h3⟩:=mayV_facts hm
  have hvl:=(verBytes_len hm).1
  rw[C_r07_Bytes_3]
  simp only[Hold_eq]
  rw[Int.toNat_natCast,getD_at hjl,step64 j (by omega)]
  have e1:l[j].f0=((l[j].f0.toNat:Nat):Int):=by omega
  have e2:l[j].f1=((l[j].f1.toNat:Nat):Int):=by omega
  have g1:=grp_len200 (n:=l[j].f0.toNat) (by omega)
  have g2:=grp_len200 (n:=l[j].f1.toNat) (by omega)
  have g3:=grp_len200 (n:=l[j].f2.size) (by omega)
  have g4:=bytesTo_len l[j].f2
  refine cond_dec (fun _=>⟨⟨by omega,by omega⟩,?_⟩) (fun e=>by omega)
  rw[e1,e2]
  refine r01_Groups_s _ k (by omega) (by omega) ⟨by unfold room;omega,⟨by omega,by omega⟩,r01_Groups_s _ k (by omega) (by omega) ⟨by unfold room;rw[List.length_append];omega,⟨by omega,by omega⟩,r01_Bytes_s k h3 (by omega) ⟨?_,?_⟩⟩⟩
  ·unfold room keyBytes
   rw[List.length_append,List.length_append,List.length_append,g4];omega
  ·have e3:acc++grp l[j].f0.toNat++grp l[j].f1.toNat++keyBytes l[j].f2=acc++verBytes l[j]:=by unfold verBytes;simp only[List.append_assoc]
   rw[e3]
   refine ih (j+1) k _ (by omega) (by omega) (by rw[List.length_append];omega) ?_
   rw[drop_cons hjl,List.map_cons,List.flatten_cons] at h
   rw[List.append_assoc]
   exact h
theorem flat_B8{l:List S_api_Version}(hl:∀ v∈l,mayV v=true):B8 ((l.map verBytes).flatten):=by
 induction l with
 | nil=>intro x hx;cases hx
 | cons v l ih=>
  rw[List.map_cons,List.flatten_cons]
  exact (verBytes_len (hl v (by simp))).2.append (ih fun x hx=>hl x (List.mem_cons_of_mem _ hx))
theorem r07_Digest_s(k:Nat){l:List S_api_Version}(hn:l.length<=100000){K:List Int->Int->Prop}(hk:100200<=k)(h:∀ e,K (verD l) e):F_r07_Digest k l K:=by
 obtain⟨k,rfl⟩:∃ m,k=m+3:=⟨k-3,by omega⟩
 rw[F_r07_Digest]
 simp only[Hold_eq]
 rw[F_r07_Put]
 simp only[Hold_eq]
 unfold verD at h
 refine r07_Is_s (k+1) hn (by omega) (cond_nb (fun g=>?_) (fun g=>?_))
 ·rw[if_neg (by rw[g];decide)] at h
  exact cond_ndec (fun _=>h _) (fun x=>absurd x (by decide))
 ·rw[if_pos g] at h
  obtain⟨h1,h2⟩:=versB_facts g
  have hl:=bytesV_len g
  rw[F_r07_Bytes]
  simp only[Hold_eq]
  have g1:=grp_len200 (n:=l.length) (by omega)
  refine r01_Groups_s l.length k (by omega) (by omega) (r07_Bytes_loop h2 h1 l.length 0 k _ (by omega) (by omega) (by omega) ?_)
  rw[List.drop_zero]
  refine cond_ndec (fun x=>by simp at x) (fun _=>?_)
  exact r02_Sum_s (k+2) (m:=bytesV l) ((grp_B8 _).append (flat_B8 h2)) (by omega) (by omega) (h _)
theorem r04_Of_s(k:Nat){s:ByteArray}{K:List Int->Prop}(hs:s.size<=100000)(hk:110000<=k)(h:K (pathL s)):F_r04_Of k s K:=by
 obtain⟨k,rfl⟩:∃ m,k=m+1:=⟨k-1,by omega⟩
 rw[F_r04_Of]
 simp only[Hold_eq]
 exact⟨by unfold maxStr;omega,r02_Sum_s k (bytesTo_B8 s) (by rw[bytesTo_len];omega) (by rw[bytesTo_len];omega) h⟩
section
variable {ep:Int} {e:Int} {us:List S_api_User} {hs:List S_api_Head} {ss:List S_api_Session}
theorem rleaves_loop(hl:us.length<=64)(hv:∀ u∈us,u.f1.length<=100000)(hn:∀ u∈us,u.f0.size<=100000){K:List S_api_Leaf->Prop}:∀ (m j k:Nat) (acc:List S_api_Leaf),j+m=us.length->m+120000<=k->acc.length<=j →
  K (acc++leavesU (us.drop j) ep)->C_r10_Leaves_3 k ep (j:Int) e us hs ss acc K:=by
 intro m
 induction m with
 | zero=>
  intro j k acc hj hk ha h
  obtain⟨k,rfl⟩:∃ m,k=m+1:=⟨k-1,by omega⟩
  rw[C_r10_Leaves_3]
  simp only[Hold_eq]
  rw[List.drop_of_length_le (by omega),leavesU,List.flatMap_nil,List.append_nil] at h
  exact cond_dec (fun e=>by omega) (fun _=>h)
 | succ m ih=>
  intro j k acc hj hk ha h
  obtain⟨k,rfl⟩:∃ m,k=m+1:=⟨k-1,by omega⟩
  have hjl:j<us.length:=by omega
  have hvj:=hv us[j] (List.getElem_mem hjl)
  have hat:=atV_len us[j].f1 ep
  rw[C_r10_Leaves_3]
  simp only[Hold_eq]
  rw[Int.toNat_natCast,getD_at hjl,step64 j (by omega)]
  rw[drop_cons hjl,leavesU,List.flatMap_cons] at h
  refine cond_dec (fun _=>⟨⟨by omega,by omega⟩,r07_At_s k hvj (by omega) (cond_dec (fun g=>?_) (fun g=>?_))⟩) (fun e=>by omega)
  ·have hnil:atV us[j].f1 ep=[]:=List.eq_nil_of_length_eq_zero (by omega)
   rw[leafU,if_pos hnil] at h
   exact ih (j+1) k _ (by omega) (by omega) (by omega) h
  ·have hne:¬atV us[j].f1 ep=[]:=fun e=>by rw[e] at g;simp at g
   refine r07_Digest_s k (by omega) (by omega) fun _=>⟨⟨by omega,by omega⟩,r04_Of_s k (hn _ (List.getElem_mem hjl)) (by omega) ⟨by unfold room;simp only[List.length_cons,List.length_nil];omega,?_⟩⟩
   refine ih (j+1) k _ (by omega) (by omega) (by simp;omega) ?_
   rw[leafU,if_neg hne] at h
   rw[List.append_assoc]
   exact h
theorem rLeaves_s(k:Nat)(hl:us.length<=64)(hv:∀ u∈us,u.f1.length<=100000)(hn:∀ u∈us,u.f0.size<=100000){K:List S_api_Leaf->Prop}(hk:130000<=k)(h:K (leavesU us ep)):F_r10_Leaves k e us hs ss ep K:=by
 obtain⟨k,rfl⟩:∃ m,k=m+1:=⟨k-1,by omega⟩
 rw[F_r10_Leaves]
 simp only[Hold_eq]
 exact rleaves_loop hl hv hn us.length 0 k [] (by omega) (by omega) (by simp) (by rw[List.nil_append,List.drop_zero];exact h)
theorem rroot_s(k:Nat)(hl:us.length<=64)(hv:∀ u∈us,u.f1.length<=100000)(hn:∀ u∈us,u.f0.size<=100000){K:List Int->Prop}(hk:500000<=k)(h:K (rootU us ep)):F_r10_root k e us hs ss ep K:=by
 obtain⟨k,rfl⟩:∃ m,k=m+1:=⟨k-1,by omega⟩
 rw[F_r10_root]
 simp only[Hold_eq]
 have:=leavesU_len us ep
 exact rLeaves_s k hl hv hn (by omega) (r05_Root_s k (leavesU_dig _ _) (by omega) h)
theorem rhist_loop(hu:USrt us)(hn:us.length<=100000){n:ByteArray}{K K1:List S_api_Version->Prop}(h:K (hist us n))(h1:K1 (hist us n)):∀ (m j k:Nat),j+m=us.length->m+1<=k->(∀ x∈us.take j,x.f0≠n)->C_r10_History_2 k n (j:Int) e us hs ss K K1:=by
 intro m
 induction m with
 | zero=>
  intro j k hj hk g
  obtain⟨k,rfl⟩:∃ m,k=m+1:=⟨k-1,by omega⟩
  rw[C_r10_History_2]
  rw[List.take_of_length_le (by omega)] at g
  rw[(hist_no hu g).1] at h1
  exact cond_dec (fun h2=>by omega) (fun _=>h1)
 | succ m ih=>
  intro j k hj hk g
  obtain⟨k,rfl⟩:∃ m,k=m+1:=⟨k-1,by omega⟩
  have hjl:j<us.length:=by omega
  rw[C_r10_History_2]
  simp only[Hold_eq]
  rw[Int.toNat_natCast,getD_at hjl,step64 j (by omega)]
  refine cond_dec (fun _=>⟨⟨by omega,by omega⟩,cond_b (fun g2=>⟨⟨by omega,by omega⟩,?_⟩) (fun g2=>?_)⟩) (fun e=>by omega)
  ·have e1:us[j].f0=n:=seq_iff.1 g2
   have:=(hist_of hu (List.getElem_mem hjl)).1
   rw[e1] at this
   rw[this] at h
   exact h
  ·refine ih (j+1) k (by omega) (by omega) ?_
   rw[List.take_succ_eq_append_getElem hjl]
   intro x hx
   rcases List.mem_append.1 hx with hx|hx
   ·exact g x hx
   ·obtain rfl:=List.mem_singleton.1 hx
    intro e1
    rw[seq_iff.2 e1] at g2
    cases g2
theorem rHistory_s(k:Nat)(hu:USrt us)(hn:us.length<=100000){n:ByteArray}{K K1:List S_api_Version->Prop}(hk:100100<=k)(h:K (hist us n))(h1:K1 (hist us n)):F_r10_History k e us hs ss n K K1:=by
 obtain⟨k,rfl⟩:∃ m,k=m+1:=⟨k-1,by omega⟩
 rw[F_r10_History]
 simp only[Hold_eq]
 exact rhist_loop hu hn h h1 us.length 0 k (by omega) (by omega) (by simp)
end
theorem rRoot_s(k:Nat){d:S_api_Directory}{ep:Int}(hd:DIn d){K:List Int->Int->Prop}(hk:900200<=k)(h:K (rootD d ep) (rootDE d ep)):F_r10_Root k d.f0 d.f1 d.f2 d.f3 ep K:=by
 obtain⟨k,rfl⟩:∃ m,k=m+1:=⟨k-1,by omega⟩
 rw[F_r10_Root]
 simp only[Hold_eq]
 unfold rootD at h
 refine Right_s k hd.v hd.h hd.hn hd.sn (by omega) (cond_nb (fun g=>?_) (fun g=>r10_within_s k (by omega) (cond_nb (fun g2=>?_) (fun g2=>?_))))
 ·have e1:rootDE d ep=70:=by unfold rootDE sealE;rw[if_neg (fun x=>by have:dirOk d=false:=g;rw[this] at x;cases x.1)]
  rw[e1,if_neg (by decide)] at h
  exact h
 ·have e1:rootDE d ep=72:=by
   unfold rootDE sealE
   rw[if_pos ⟨g,rfl⟩,if_neg (fun x=>by rw[decide_eq_true x.1,decide_eq_true x.2] at g2;cases g2)]
  rw[e1,if_neg (by decide)] at h
  exact h
 ·rw[Bool.and_eq_true,decide_eq_true_eq,decide_eq_true_eq] at g2
  have hF:DirF d:=dirOk_iff.1 g
  have e1:rootDE d ep=0:=sealE_of hF rfl g2
  rw[e1,if_pos rfl] at h
  exact rroot_s k hF.ul hd.v hF.un2 (by omega) h
theorem rLook_s(k:Nat){d:S_api_Directory}{n:ByteArray}{ep:Int}(hd:DIn d){K:List S_api_Version->List (List Int)->Bool->List Int->List Int->Int->Prop}(hk:40000000<=k)
  (h:K (lookV d n ep) (lookS d n ep) (lookO d n ep) (lookP d n ep) (lookW d n ep) (lookE d n ep)):F_r10_Look k d.f0 d.f1 d.f2 d.f3 n ep K:=by
 obtain⟨k,rfl⟩:∃ m,k=m+1:=⟨k-1,by omega⟩
 rw[F_r10_Look]
 simp only[Hold_eq]
 unfold lookV lookS lookO lookP lookW at h
 have bad:∀ x:Int,lookE d n ep=x->x≠0->K [] [] false (List.replicate 32 (0:Int)) (List.replicate 32 (0:Int)) x:=by
  intro x hx h0
  simp only[hx,if_neg h0] at h
  exact h
 refine Right_s k hd.v hd.h hd.hn hd.sn (by omega) (cond_nb (fun g=>?_) (fun g=>r10_Name_s k (by omega) (cond_nb (fun g1=>?_) (fun g1=>r10_within_s k (by omega) (cond_nb (fun g2=>?_) (fun g2=>?_))))))
 ·exact bad 70 (by unfold lookE sealE;rw[if_neg (fun x=>by have:dirOk d=false:=g;rw[this] at x;cases x.1)]) (by decide)
 ·exact bad 70 (by unfold lookE sealE;rw[if_neg (fun x=>by rw[g1] at x;cases x.2)]) (by decide)
 ·exact bad 72 (by unfold lookE sealE;rw[if_pos ⟨g,g1⟩,if_neg (fun x=>by rw[decide_eq_true x.1,decide_eq_true x.2] at g2;cases g2)]) (by decide)
 ·rw[Bool.and_eq_true,decide_eq_true_eq,decide_eq_true_eq] at g2
  have hF:DirF d:=dirOk_iff.1 g
  have e0:lookE d n ep=0:=sealE_of hF g1 g2
  simp only[e0,if_pos rfl] at h
  have hsz:=nameB_size g1
  have hul:=hF.ul
  have hll:=leavesU_len d.f1 ep
  refine rLeaves_s k hF.ul hd.v hF.un2 (by omega) (r04_Of_s k (by omega) (by omega) ?_)
  have hhl:=hist_len hd.v n
  refine rMake_s k (leavesU_dig _ _) (shaL_dig _) (by omega) (fun e=>?_) (fun e=>?_) (by omega)
  ·unfold mkS mkO mkP mkV at h
   simp only[if_neg e] at h
   exact rHistory_s k hF.us (by omega) (by omega) (r07_At_s k hhl (by omega) h) (r07_At_s k hhl (by omega) h)
  ·unfold mkS mkO mkP mkV at h
   simp only[if_pos e] at h
   exact rHistory_s k hF.us (by omega) (by omega) (r07_At_s k hhl (by omega) h) (r07_At_s k hhl (by omega) h)
end Go.V
