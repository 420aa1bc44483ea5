import Derived.Test.YtgeonfbhejigjaaGreatDoorVI10Re
set_option linter.unusedVariables false
set_option linter.unusedSimpArgs false
set_option maxRecDepth 4000
namespace Go.V
section
variable {e:Int} {us:List S_api_User} {hs:List S_api_Head} {ss:List S_api_Session}
theorem large19_s(k:Nat){key:ByteArray}{l m:List S_api_Signed}{K:Bool->Prop}(hk:5100<=k)(h:∀ b,(b=false->Small us hs ss/\l.length<=300/\m.length<=300)->K b):F_l19_large k key e us hs ss l m K:=by
 obtain⟨k,rfl⟩:∃ m,k=m+2:=⟨k-2,by omega⟩
 rw[F_l19_large]
 simp only[Hold_eq]
 rw[F_r08_BigDirectory]
 simp only[Hold_eq]
 have tr:cond true (K true) (cond (decide ((65536:Int)<((ByteArray.size key:Nat):Int))) (K true) (cond (decide ((300:Int)<((List.length l:Nat):Int))) (K true) (K (decide ((300:Int)<((List.length m:Nat):Int)))))):=h true fun e=>by cases e
 refine cond_dec (fun h1=>tr) (fun h1=>cond_dec (fun h2=>tr) (fun h2=>cond_dec (fun h3=>tr) (fun h3=>?_)))
 refine big_loop (by omega) us.length 0 0 k (by omega) (by omega) (by omega) (fun i hi hij=>by omega) fun b hb=>?_
 cases b with
 | true=>exact tr
 | false=>
  have sm:Small us hs ss:=⟨by omega,by omega,by omega,hb rfl⟩
  exact cond_dec (fun _=>h _ fun e=>by cases e) (fun _=>cond_dec (fun _=>h _ fun e=>by cases e) (fun h4=>h _ fun e=>⟨sm,by omega,by have:=of_decide_eq_false e;omega⟩))
end
def k64(key:List Int):List Int:=key++List.replicate (64-key.length) 0
def xorL(p:Int)(l:List Int):List Int:=l.map fun x=>ixor .u8 x p
def macL(key b:List Int):List Int:=shaL (xorL 92 (k64 key)++shaL (xorL 54 (k64 key)++b))
theorem k64_len{key:List Int}(h:key.length<=64):(k64 key).length=64:=by unfold k64;rw[List.length_append,List.length_replicate];omega
theorem xorL_B8(p:Int)(l:List Int):B8 (xorL p l):=by
 intro x hx
 unfold xorL at hx
 obtain⟨y,-,rfl⟩:=List.mem_map.1 hx
 exact wrap8_B _
theorem xorL_len(p:Int)(l:List Int):(xorL p l).length=l.length:=List.length_map _
theorem turned_loop{l:List Int}{p:Int}(hl:l.length=64):∀ (m j k:Nat) (acc:List Int) {K:Nat->Nat->Int->List Int->Prop},j+m=64->m+5<=k->acc=xorL p (l.take j)++l.drop j->K 0 64 p (xorL p l)->C_mac_turned_byte_2 k l (j:Int) p acc K:=by
 intro m
 induction m with
 | zero=>
  intro j k acc K hj hk ha h
  obtain⟨k,rfl⟩:∃ m,k=m+1:=⟨k-1,by omega⟩
  rw[C_mac_turned_byte_2]
  refine cond_dec (fun h1=>by omega) (fun h1=>⟨by decide,?_⟩)
  rw[List.take_of_length_le (by omega),List.drop_of_length_le (by omega),List.append_nil] at ha
  rw[ha];exact h
 | succ m ih=>
  intro j k acc K hj hk ha h
  obtain⟨k,rfl⟩:∃ m,k=m+2:=⟨k-2,by omega⟩
  rw[C_mac_turned_byte_2]
  simp only[Hold_eq]
  have hj1:j<l.length:=by omega
  refine cond_dec (fun h1=>⟨by omega,?_⟩) (fun h1=>by omega)
  rw[F_mac_Mac_1_1,Int.toNat_natCast,getD_at hj1,step64 j (by omega)]
  refine⟨by omega,ih (j+1) (k+1) _ (by omega) (by omega) ?_ h⟩
  have e1:(xorL p (l.take j)).length=j:=by rw[xorL_len,List.length_take];omega
  rw[ha,List.set_append_right _ _ (by omega),e1,Nat.sub_self,drop_cons hj1,List.set_cons_zero]
  rw[List.take_succ_eq_append_getElem hj1]
  unfold xorL
  rw[List.map_append,List.append_assoc]
  rfl
theorem Mac1_s(k:Nat){l:List Int}{p:Int}{K:Nat->Nat->List Int->List Int->Prop}(hl:l.length=64)(hk:100<=k)(h:K 0 64 l (xorL p l)):F_mac_Mac_1 k p l K:=by
 obtain⟨k,rfl⟩:∃ m,k=m+2:=⟨k-2,by omega⟩
 rw[F_mac_Mac_1]
 simp only[Hold_eq]
 rw[F_mac_turned_byte]
 simp only[Hold_eq]
 refine turned_loop hl 64 0 k l (by omega) (by omega) ?_ h
 rfl
theorem mac_s(k:Nat){key b:List Int}{K:List Int->Prop}(hkey:key.length<=64)(hb:b.length<=1000)(hk:6000<=k)(h:K (macL key b)):F_mac_Mac k key b K:=by
 obtain⟨k,rfl⟩:∃ m,k=m+3:=⟨k-3,by omega⟩
 rw[F_mac_Mac]
 simp only[Hold_eq]
 refine cond_dec (fun h1=>by omega) (fun h1=>?_)
 rw[C_mac_Mac_5_1]
 simp only[Hold_eq]
 refine⟨by decide,?_⟩
 have e:splice (List.replicate 64 (0:Int)) (Int.toNat 0) key (Nat.min (List.length key) (Int.toNat (64-0)))=k64 key:=by
  have:Nat.min key.length 64=key.length:=Nat.min_eq_left hkey
  show List.take 0 _++(key.take (Nat.min key.length 64)++(List.replicate 64 (0:Int)).drop (0+Nat.min key.length 64))=_
  rw[this,Nat.zero_add,List.take_of_length_le (Nat.le_refl _),List.drop_replicate]
  rfl
 have l64:=k64_len hkey
 rw[e,C_mac_Mac_7]
 simp only[Hold_eq]
 have x54:=xorL_len 54 (k64 key)
 have x92:=xorL_len 92 (k64 key)
 have c54:cut (xorL 54 (k64 key)) 0 64=xorL 54 (k64 key):=cut_all _ (by omega)
 have c92:cut (xorL 92 (k64 key)) 0 64=xorL 92 (k64 key):=cut_all _ (by omega)
 refine sha_New_s k (by omega) (sha_New_s k (by omega) (Mac1_s k l64 (by omega) ?_))
 rw[c54]
 refine Write_s k New_inv (by simp;omega) (by omega) fun w1 b1 n1 I1=>?_
 rw[List.nil_append] at I1
 refine Write_s k I1 (by omega) (by omega) fun w2 b2 n2 I2=>?_
 refine Sum_s k I2 (by rw[List.length_append];omega) (by omega) (Mac1_s k l64 (by omega) ?_)
 rw[c92]
 refine Write_s k New_inv (by simp;omega) (by omega) fun w3 b3 n3 I3=>⟨by decide,?_⟩
 rw[List.nil_append] at I3
 have ls:=(shaL_dig (xorL 54 (k64 key)++b)).1
 have cs:cut (shaL (xorL 54 (k64 key)++b)) (Int.toNat 0) (Int.toNat (32-0))=shaL (xorL 54 (k64 key)++b):=cut_all _ (by rw[ls];decide)
 rw[cs]
 refine Write_s k I3 (by omega) (by omega) fun w4 b4 n4 I4=>?_
 exact Sum_s k I4 (by rw[List.length_append];omega) (by omega) h
def hb(h:S_api_Head):List Int:=grp h.f0.toNat++h.f1++h.f2
def MayH(h:S_api_Head):Prop:=1<=h.f0/\h.f0<=200
instance (h:S_api_Head):Decidable (MayH h):=inferInstanceAs (Decidable (_/\_))
theorem hb_len{h:S_api_Head}(hh:HeadOk h)(hm:MayH h):(hb h).length<=100/\B8 (hb h):=by
 have lg:=(grp_len 4 h.f0.toNat (by have:(128:Nat) ^ 5=34359738368:=rfl;have:=hm.2;omega)).1
 have l1:=hh.1.1
 have l2:=hh.2.1
 exact⟨by unfold hb;rw[List.length_append,List.length_append];omega,(B8.append (grp_B8 _) hh.1.2).append hh.2.2⟩
theorem head_Bytes_s(k:Nat){h:S_api_Head}{K:List Int->Int->Prop}(hh:HeadOk h)(hk:1000<=k)(g:if MayH h then K (hb h) 0 else K [] 80):F_head_Bytes k h.f0 h.f1 h.f2 K:=by
 obtain⟨k,rfl⟩:∃ m,k=m+1:=⟨k-1,by omega⟩
 rw[F_head_Bytes]
 simp only[Hold_eq]
 have l1:=hh.1.1
 have l2:=hh.2.1
 refine cond_dec (fun h1=>?_) (fun h1=>cond_dec (fun h2=>?_) (fun h2=>?_))
 ·rw[if_neg (by unfold MayH;omega)] at g;exact g
 ·rw[if_neg (by unfold MayH;omega)] at g;exact g
 ·rw[if_pos ⟨by omega,by omega⟩] at g
  unfold hb at g
  obtain⟨n,hn⟩:=Int.eq_ofNat_of_zero_le (by omega:0<=h.f0)
  rw[hn,Int.toNat_natCast] at g
  rw[hn]
  have lg:=(grp_len 4 n (by have:(128:Nat) ^ 5=34359738368:=rfl;omega)).1
  refine PutCount_s n k [] (by omega) (by omega) (by simp) ?_
  rw[List.nil_append]
  exact PutDigest_s k _ _ (by omega) hh.1 (by omega) (PutDigest_s k _ _ (by omega) hh.2 (by rw[List.length_append];omega) g)
def keyB(key:ByteArray):Bool:=decide (1<=key.size)&&decide (key.size<=64)
theorem signing_s(k:Nat){key:ByteArray}{K:Bool->Prop}(hk:1<=k)(h:K (keyB key)):F_head_signing k key K:=by
 obtain⟨k,rfl⟩:∃ m,k=m+1:=⟨k-1,by omega⟩
 rw[F_head_signing,seq_str0]
 unfold keyB at h
 refine cond_ndec (fun h1=>?_) (fun h1=>?_)
 ·rw[decide_eq_true (by omega),Bool.true_and] at h
  rw[show (64:Int)=((64:Nat):Int) from rfl,nat_le];exact h
 ·rw[decide_eq_false (by omega),Bool.false_and] at h;exact h
abbrev G0:S_api_Signed:=S_api_Signed.mk H0 z32
def signOf(key:ByteArray)(h:S_api_Head):S_api_Signed:=if keyB key=true/\MayH h then S_api_Signed.mk h (macL (bytesTo key) (hb h)) else G0
theorem keyB_len{key:ByteArray}(h:keyB key=true):key.size<=64:=by
 unfold keyB at h
 rw[Bool.and_eq_true] at h
 exact of_decide_eq_true h.2
theorem head_Sign_s(k:Nat){key:ByteArray}{h:S_api_Head}{K:Int->List Int->List Int->List Int->Int->Prop}(hh:HeadOk h)(hk:7000<=k)(g:∀ e,K (signOf key h).f0.f0 (signOf key h).f0.f1 (signOf key h).f0.f2 (signOf key h).f1 e):F_head_Sign k key h.f0 h.f1 h.f2 K:=by
 obtain⟨k,rfl⟩:∃ m,k=m+1:=⟨k-1,by omega⟩
 rw[F_head_Sign]
 simp only[Hold_eq]
 unfold signOf at g
 refine head_Bytes_s k hh (by omega) ?_
 by_cases hm:MayH h
 ·rw[if_pos hm]
  refine signing_s k (by omega) (cond_nb (fun h1=>?_) (fun h1=>?_))
  ·rw[if_neg (by rw[h1];simp)] at g;exact g _
  ·rw[if_pos ⟨h1,hm⟩] at g
   have l1:=keyB_len h1
   have l2:=bytesTo_len key
   obtain⟨l3,l4⟩:=hb_len hh hm
   exact cond_ndec (fun x=>absurd rfl x) (fun _=>⟨by unfold maxStr;omega,mac_s k (by omega) (by omega) (by omega) (g 0)⟩)
 ·rw[if_neg hm]
  rw[if_neg (fun x=>hm x.2)] at g
  exact signing_s k (by omega) (cond_nb (fun h1=>g _) (fun h1=>cond_ndec (fun _=>g _) (fun x=>absurd x (by decide))))
section
variable {e:Int} {us:List S_api_User} {hs:List S_api_Head} {ss:List S_api_Session} {key:ByteArray}
theorem ready_s(k:Nat){K:Int->Prop}(hv:∀ u∈us,u.f1.length<=100000)(hh:∀ h∈hs,HeadOk h)(hn:hs.length<=100000)(hns:ss.length<=100000)(hk:900010<=k)(h:K (cond (dirB e us hs ss) (cond (keyB key) 0 80) 70)):F_signer_ready k key e us hs ss K:=by
 obtain⟨k,rfl⟩:∃ m,k=m+1:=⟨k-1,by omega⟩
 rw[F_signer_ready]
 simp only[Hold_eq]
 refine Check_s k hv hh hn hns (by omega) ?_
 cases hd:dirB e us hs ss
 ·rw[hd] at h;exact h
 ·rw[hd,cond_true] at h
  rw[seq_str0]
  unfold keyB at h
  refine cond_ndec (fun g=>absurd rfl g) (fun _=>cond_dec (fun h1=>?_) (fun h1=>cond_dec (fun h2=>?_) (fun h2=>?_)))
  ·rw[decide_eq_false (by omega),Bool.false_and] at h;exact h
  ·rw[decide_eq_false (by omega:¬key.size<=64),Bool.and_false] at h;exact h
  ·rw[decide_eq_true (by omega),decide_eq_true (by omega)] at h;exact h
end
end Go.V
