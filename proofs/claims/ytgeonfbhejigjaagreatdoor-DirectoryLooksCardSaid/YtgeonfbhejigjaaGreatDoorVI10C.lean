import Derived.Test.YtgeonfbhejigjaaGreatDoorVI10P
import Derived.Test.YtgeonfbhejigjaaGreatDoorVJ09
set_option linter.unusedVariables false
set_option linter.unusedSimpArgs false
set_option maxRecDepth 4000
namespace Go.V
theorem pright_s(k:Nat){p:List Int}{i:Nat}{K:Bool->Prop}(hp:Dig p)(hi:i<256)(hk:3<=k)(h:K (decide (bitN p i=1))):F_proof_right k p (i:Int) K:=by
 obtain⟨k,rfl⟩:∃ m,k=m+1:=⟨k-1,by omega⟩
 rw[F_proof_right]
 simp only[Hold_eq]
 refine path_Bit_s k hp hi (by omega) ?_
 rw[decide_eq_decide.2 (by omega:((bitN p i:Nat):Int)=1↔bitN p i=1)]
 exact h
end Go.V
