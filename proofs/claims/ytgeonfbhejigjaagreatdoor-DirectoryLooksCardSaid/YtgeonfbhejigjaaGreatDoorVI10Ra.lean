import Derived.Test.YtgeonfbhejigjaaGreatDoorVI10R
set_option linter.unusedVariables false
set_option linter.unusedSimpArgs false
set_option maxRecDepth 4000
namespace Go.V
def leafU(ep:Int)(u:S_api_User):List S_api_Leaf:=if atV u.f1 ep=[] then [] else [S_api_Leaf.mk (pathL u.f0) (verD (atV u.f1 ep))]
def leavesU(us:List S_api_User)(ep:Int):List S_api_Leaf:=us.flatMap (leafU ep)
def rootU(us:List S_api_User)(ep:Int):List Int:=rootR 32 (leavesU us ep)
theorem verD_dig(l:List S_api_Version):Dig (verD l):=by
 unfold verD
 split
 ·exact shaL_dig _
 ·exact Dig.zero
theorem leavesU_dig(us:List S_api_User)(ep:Int):LDig (leavesU us ep):=by
 intro x hx
 obtain⟨u,-,hx⟩:=List.mem_flatMap.1 hx
 unfold leafU at hx
 split at hx
 ·cases hx
 ·obtain rfl:=List.mem_singleton.1 hx
  exact⟨shaL_dig _,verD_dig _⟩
theorem leafU_len(ep:Int)(u:S_api_User):(leafU ep u).length<=1:=by unfold leafU;split<;>simp
theorem leavesU_len:∀ (us:List S_api_User) (ep:Int),(leavesU us ep).length<=us.length
 | [],ep=>Nat.le_refl _
 | u::us,ep=>by
  have h1:=leafU_len ep u
  have h2:=leavesU_len us ep
  unfold leavesU at *
  rw[List.flatMap_cons,List.length_append,List.length_cons];omega
section
variable {ep:Int} {e:Int} {us:List S_api_User} {hs:List S_api_Head} {ss:List S_api_Session}
theorem leaves_loop(hl:us.length<=64)(hn:∀ u∈us,u.f0.size<=100000){K:Int->List S_api_User->List S_api_Head->List S_api_Session->List S_api_Leaf->Prop}:∀ (m j k:Nat) (acc:List S_api_Leaf),j+m=us.length->m+120000<=k->acc.length<=j →
  K e us hs ss (acc++leavesU (us.drop j) ep)->C_directory_work_leaves_3_1 k ep (us.length:Int) (j:Int) e us hs ss acc K:=by
 intro m
 induction m with
 | zero=>
  intro j k acc hj hk ha h
  obtain⟨k,rfl⟩:∃ m,k=m+1:=⟨k-1,by omega⟩
  rw[C_directory_work_leaves_3_1]
  simp only[Hold_eq]
  rw[List.drop_of_length_le (by omega),leavesU,List.flatMap_nil,List.append_nil] at h
  exact cond_dec (fun e=>by omega) (fun _=>h)
 | succ m ih=>
  intro j k acc hj hk ha h
  obtain⟨k,rfl⟩:∃ m,k=m+1:=⟨k-1,by omega⟩
  have hjl:j<us.length:=by omega
  rw[C_directory_work_leaves_3_1]
  simp only[Hold_eq]
  rw[Int.toNat_natCast,getD_at hjl,step64 j (by omega)]
  rw[drop_cons hjl,leavesU,List.flatMap_cons] at h
  refine cond_dec (fun _=>⟨⟨by omega,by omega⟩,At_s2 k (by omega) (cond_dec (fun g=>?_) (fun g=>?_))⟩) (fun e=>by omega)
  ·have hne:¬atV us[j].f1 ep=[]:=fun e=>by rw[e] at g;simp at g
   refine version_Digest_s k (by omega) fun _=>path_Of_s k (hn _ (List.getElem_mem hjl)) (by omega) ⟨by unfold room;simp only[List.length_cons,List.length_nil];omega,?_⟩
   refine ih (j+1) k _ (by omega) (by omega) (by simp;omega) ?_
   rw[leafU,if_neg hne] at h
   rw[List.append_assoc]
   exact h
  ·have hnil:atV us[j].f1 ep=[]:=List.eq_nil_of_length_eq_zero (by omega)
   rw[leafU,if_pos hnil] at h
   exact ih (j+1) k _ (by omega) (by omega) (by omega) h
theorem leaves_loop1{us2:List S_api_User}(hl:us.length<=64)(hn:∀ u∈us,u.f0.size<=100000){K:Int->List S_api_User->List S_api_Head->List S_api_Session->List S_api_Leaf->Prop}:∀ (m j k:Nat) (acc:List S_api_Leaf),j+m=us.length->m+120000<=k->acc.length<=j →
  K e us2 hs ss (acc++leavesU (us.drop j) ep)->C_directory_work_leaves_3 k ep us (us.length:Int) (j:Int) e us2 hs ss acc K:=by
 intro m
 induction m with
 | zero=>
  intro j k acc hj hk ha h
  obtain⟨k,rfl⟩:∃ m,k=m+1:=⟨k-1,by omega⟩
  rw[C_directory_work_leaves_3]
  simp only[Hold_eq]
  rw[List.drop_of_length_le (by omega),leavesU,List.flatMap_nil,List.append_nil] at h
  exact cond_dec (fun e=>by omega) (fun _=>h)
 | succ m ih=>
  intro j k acc hj hk ha h
  obtain⟨k,rfl⟩:∃ m,k=m+1:=⟨k-1,by omega⟩
  have hjl:j<us.length:=by omega
  rw[C_directory_work_leaves_3]
  simp only[Hold_eq]
  rw[Int.toNat_natCast,getD_at hjl,step64 j (by omega)]
  rw[drop_cons hjl,leavesU,List.flatMap_cons] at h
  refine cond_dec (fun _=>⟨⟨by omega,by omega⟩,At_s2 k (by omega) (cond_dec (fun g=>?_) (fun g=>?_))⟩) (fun e=>by omega)
  ·have hne:¬atV us[j].f1 ep=[]:=fun e=>by rw[e] at g;simp at g
   refine version_Digest_s k (by omega) fun _=>path_Of_s k (hn _ (List.getElem_mem hjl)) (by omega) ⟨by unfold room;simp only[List.length_cons,List.length_nil];omega,?_⟩
   refine ih (j+1) k _ (by omega) (by omega) (by simp;omega) ?_
   rw[leafU,if_neg hne] at h
   rw[List.append_assoc]
   exact h
  ·have hnil:atV us[j].f1 ep=[]:=List.eq_nil_of_length_eq_zero (by omega)
   rw[leafU,if_pos hnil] at h
   exact ih (j+1) k _ (by omega) (by omega) (by omega) h
theorem work_root_s(k:Nat)(hl:us.length<=64)(hn:∀ u∈us,u.f0.size<=100000){K:List Int->Int->List S_api_User->List S_api_Head->List S_api_Session->Prop}(hk:130000<=k)(h:K (rootU us ep) e us hs ss):F_directory_work_root_s1 k ep e us hs ss K:=by
 obtain⟨k,rfl⟩:∃ m,k=m+2:=⟨k-2,by omega⟩
 rw[F_directory_work_root_s1]
 simp only[Hold_eq]
 rw[F_directory_work_leaves_s1]
 simp only[Hold_eq]
 refine leaves_loop hl hn us.length 0 k [] (by omega) (by omega) (by simp) ?_
 rw[List.nil_append,List.drop_zero]
 exact Root_s (k+1) (leavesU_dig us ep) (by omega) h
theorem work_root1_s(k:Nat)(hl:us.length<=64)(hn:∀ u∈us,u.f0.size<=100000){K:List Int->Int->List S_api_User->List S_api_Head->List S_api_Session->Prop}(hk:130000<=k)(h:K (rootU us ep) e us hs ss):F_directory_work_root k ep e us hs ss K:=by
 obtain⟨k,rfl⟩:∃ m,k=m+2:=⟨k-2,by omega⟩
 rw[F_directory_work_root]
 simp only[Hold_eq]
 rw[F_directory_work_leaves]
 simp only[Hold_eq]
 refine leaves_loop1 hl hn us.length 0 k [] (by omega) (by omega) (by simp) ?_
 rw[List.nil_append,List.drop_zero]
 exact Root_s (k+1) (leavesU_dig us ep) (by omega) h
def inOk(e:Int)(us:List S_api_User)(hs:List S_api_Head)(ep:Int)(root:List Int):Prop:=ep=(hs.length:Int)+1/\ep<=e/\root=rootU us ep
instance (e:Int) (us:List S_api_User) (hs:List S_api_Head) (ep:Int) (root:List Int):Decidable (inOk e us hs ep root):=by unfold inOk;infer_instance
theorem intend_s(k:Nat){kd c s:Int}{n key:ByteArray}{root:List Int}(hl:us.length<=64)(hn:∀ u∈us,u.f0.size<=100000)(hh:∀ h∈hs,HeadOk h)(hhl:hs.length<=100000)
  {R:Int->Int->List S_api_User->List S_api_Head->List S_api_Session->Prop} (hk:140000<=k) (h0:¬inOk e us hs ep root->R 73 e us hs ss) (h1:inOk e us hs ep root->R 0 e us (hs++[S_api_Head.mk ep root (prevL hs hs.length)]) ss) :
  F_directory_work_intend k kd c s n key ep root e us hs ss R (fun x e us ss hs=>R x e us hs ss):=by
 obtain⟨k,rfl⟩:∃ m,k=m+1:=⟨k-1,by omega⟩
 rw[F_directory_work_intend]
 simp only[Hold_eq]
 rw[wrap64 (n:=((List.length hs:Nat):Int)+1) (by omega)]
 refine cond_ndec (fun g=>h0 fun i=>g i.1) (fun g=>cond_dec (fun g2=>h0 fun i=>by have:=i.2.1;omega) (fun g2=>?_))
 refine work_root_s k hl hn (by omega) (cond_ndec (fun g3=>h0 fun i=>g3 i.2.2) (fun g3=>?_))
 have hp:=prev_s (K:=fun r17=>room (List.length hs+List.length [S_api_Head.mk ep root r17]) 72/\R 0 e us (hs++[S_api_Head.mk ep root r17]) ss) k hh (Nat.le_refl hs.length) hhl (by omega) ⟨by unfold room;simp only[List.length_cons,List.length_nil];omega,h1 ⟨g,by omega,g3⟩⟩
 rwa [List.take_length] at hp
end
end Go.V
