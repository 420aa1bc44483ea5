import Derived.Test.YtgeonfbhejigjaaGreatDoorVL10Rj
set_option linter.unusedVariables false
namespace Go.V
theorem wf_dig{m:Nat}{d:List Int}(h:wf PE (m+2) (.arr 5 32 d)):Dig d:=⟨h.1,fun x hx=>h.2 x hx⟩
theorem wf_head{m:Nat}{x:S_api_Head}(h:wf PE (m+4) (PE.enc 45 x)):HeadOk x:=by
 have h:∀ a∈[A.int (U:=PU) .i64 x.f0,.arr 5 32 x.f1,.arr 5 32 x.f2],wf PE (m+3) a:=h
 exact⟨wf_dig (m:=m+1) (h _ (by simp)),wf_dig (m:=m+1) (h _ (by simp))⟩
theorem wf_heads{m:Nat}{x:S_api_Directory}(h:wf PE (m+6) (PE.enc 26 x)):HsOk x:=by
 have h:∀ a∈[A.int (U:=PU) .i64 x.f0,.ro false 40 x.f1,.ro false 45 x.f2,.ro false 47 x.f3],wf PE (m+5) a:=h
 have h0:wf PE (m+5) (.ro false 45 x.f2):=h _ (by simp)
 exact fun y hy=>wf_head (m:=m) (h0.2 y hy)
theorem law_SignerAgain(x0 x1:ByteArray)(x2:S_api_Directory)(x3:List S_api_Signed)(x4:Int)(hw:∀ m,∀ a∈[PE.enc 9 x0,PE.enc 9 x1,PE.enc 26 x2,PE.enc 65 x3,PE.enc 3 x4],wf PE m a) :
  ∃ k,F_l19_SignerAgain k x0 x1 x2.f0 x2.f1 x2.f2 x2.f3 x3 x4 (fun b=>b=true):=
 ⟨_,Again_s _ (wf_heads (m:=0) (hw 6 _ (by simp))) (Nat.le_refl _)⟩
theorem law_SignerAgrees(x0:ByteArray)(x1:S_api_Directory)(x2:List S_api_Command)(x3 x4:Int)(hw:∀ m,∀ a∈[PE.enc 9 x0,PE.enc 26 x1,PE.enc 63 x2,PE.enc 3 x3,PE.enc 3 x4],wf PE m a) :
  ∃ k,F_l19_SignerAgrees k x0 x1.f0 x1.f1 x1.f2 x1.f3 x2 x3 x4 (fun b=>b=true):=
 ⟨_,Agrees_s _ (wf_heads (m:=0) (hw 6 _ (by simp))) (Nat.le_refl _)⟩
theorem law_SignerChains(x0:ByteArray)(x1:S_api_Directory)(hw:∀ m,∀ a∈[PE.enc 9 x0,PE.enc 26 x1],wf PE m a) :
  ∃ k,F_l19_SignerChains k x0 x1.f0 x1.f1 x1.f2 x1.f3 (fun b=>b=true):=
 ⟨_,Chains_s _ (wf_heads (m:=0) (hw 6 _ (by simp))) (Nat.le_refl _)⟩
end Go.V
