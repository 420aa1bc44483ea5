import Derived.Test.YtgeonfbhejigjaaGreatDoorVI10Sc
set_option linter.unusedVariables false
set_option linter.unusedSimpArgs false
set_option maxRecDepth 8000
namespace Go.V
theorem Small.din2{d:S_api_Directory}(h:Small d.f1 d.f2 d.f3)(hh:HsOk d):DIn d:=⟨fun u hu=>by have:=h.v u hu;omega,hh,by have:=h.h;omega,by have:=h.s;omega⟩
section
variable {e:Int} {us:List S_api_User} {hs:List S_api_Head} {ss:List S_api_Session}
theorem looks10(sm:Small us hs ss):∀ (m j k:Nat) (l:List S_api_Version),l.length<=100000->j+m=l.length->m+20000000<=k->C_l10_DirectoryLooks_10 k true (j:Int) e us hs ss e l us hs ss (fun b=>b=true):=by
 intro m
 induction m with
 | zero=>
  intro j k l hn hj hk
  obtain⟨k,rfl⟩:∃ m,k=m+1:=⟨k-1,by omega⟩
  rw[C_l10_DirectoryLooks_10]
  simp only[Hold_eq]
  refine cond_dec (fun x=>by omega) (fun _=>looks_s k (by omega) ?_)
  rw[cond_true,cond_true]
  exact same_s sm k (by omega) rfl
 | succ m ih=>
  intro j k l hn hj hk
  obtain⟨k,rfl⟩:∃ m,k=m+1:=⟨k-1,by omega⟩
  rw[C_l10_DirectoryLooks_10]
  simp only[Hold_eq]
  rw[step64 j (by omega)]
  refine cond_dec (fun _=>⟨⟨by omega,by omega⟩,?_⟩) (fun x=>by omega)
  exact ih (j+1) k _ (by rw[List.length_set];exact hn) (by rw[List.length_set];omega) (by omega)
end
theorem DLooks_s(k:Nat){d:S_api_Directory}{n:ByteArray}{ep:Int}(hh:HsOk d)(hk:50000000<=k):F_l10_DirectoryLooks k d.f0 d.f1 d.f2 d.f3 n ep (fun b=>b=true):=by
 obtain⟨k,rfl⟩:∃ m,k=m+1:=⟨k-1,by omega⟩
 rw[F_l10_DirectoryLooks]
 simp only[Hold_eq]
 refine large_s k (by omega) fun b hb=>cond_b (fun _=>(by first|rfl|trivial|decide)) (fun g=>?_)
 have sm:=hb g
 have hd:DIn d:=Small.din2 sm hh
 refine own_s sm k (by omega) (dRoot_s k hd (by omega) (rRoot_s k hd (by omega) (Look_s k hd (by omega) (rLook_s k hd (by omega) ?_))))
 refine cond_dec (fun _=>cond_dec (fun _=>cond_dec (fun _=>?_) (fun x=>absurd rfl x)) (fun x=>absurd rfl x)) (fun x=>absurd rfl x)
 have l1:(lookV d n ep).length<=100000:=by
  unfold lookV
  split
  ·have:=atV_len (hist d.f1 n) ep
   have:=hist_len hd.v n
   omega
  ·simp
 have l2:(lookS d n ep).length<=4096:=by
  unfold lookS mkS
  split
  ·split
   ·have:=sibs_le256 32 (p:=pathL n) 256 0 (l:=leavesU d.f1 ep)
    unfold sibL;omega
   ·simp
  ·simp
 refine SameVersions_s k l1 (by omega) ?_
 rw[cond_true]
 refine rSame_s k l2 (by omega) ?_
 obtain⟨k,rfl⟩:∃ m,k=m+1:=⟨k-1,by omega⟩
 rw[C_l10_DirectoryLooks_9]
 simp only[Hold_eq]
 exact looks10 sm (lookV d n ep).length 0 k _ l1 (by omega) (by omega)
theorem wf_dig{m:Nat}{d:List Int}(h:wf PE (m+2) (.arr 5 32 d)):Dig d:=⟨h.1,fun x hx=>h.2 x hx⟩
theorem wf_head{m:Nat}{x:S_api_Head}(h:wf PE (m+4) (PE.enc 45 x)):HeadOk x:=by
 have h:∀ a∈[A.int (U:=PU) .i64 x.f0,.arr 5 32 x.f1,.arr 5 32 x.f2],wf PE (m+3) a:=h
 exact⟨wf_dig (m:=m+1) (h _ (by simp)),wf_dig (m:=m+1) (h _ (by simp))⟩
theorem wf_heads{m:Nat}{x:S_api_Directory}(h:wf PE (m+6) (PE.enc 26 x)):HsOk x:=by
 have h:∀ a∈[A.int (U:=PU) .i64 x.f0,.ro false 40 x.f1,.ro false 45 x.f2,.ro false 47 x.f3],wf PE (m+5) a:=h
 have h0:wf PE (m+5) (.ro false 45 x.f2):=h _ (by simp)
 exact fun y hy=>wf_head (m:=m) (h0.2 y hy)
theorem law_DirectoryLooks(x0:S_api_Directory)(x1:ByteArray)(x2:Int)(hw:∀ m,∀ a∈[PE.enc 26 x0,PE.enc 9 x1,PE.enc 3 x2],wf PE m a) :
  ∃ k,F_l10_DirectoryLooks k x0.f0 x0.f1 x0.f2 x0.f3 x1 x2 (fun b=>b=true):=
 ⟨_,DLooks_s _ (wf_heads (m:=0) (hw 6 _ (by simp))) (Nat.le_refl _)⟩
end Go.V
