import Derived.Test.YtnmecdecebdfiaaDoorVP23Q
import Derived.Test.YtnmecdecebdfiaaDoorVP23E
import Derived.Test.YtnmecdecebdfiaaDoorVJ09
set_option linter.unusedVariables false
namespace Go.V
theorem wf_i64{m:Nat}{n:Int}(h:wf PE (m+1) (.int .i64 n)):I64 n:=h
theorem wf_act{x:S_api_Act}(h:wf PE 5 (PE.enc 33 x)):ActI x:=by
 have h:∀ a∈[A.int (U:=PU) .i64 x.f0,.int .i64 x.f1,.int .i64 x.f2,.int .i64 x.f3,.agg [.int .i64 x.f4.f0,.int .i64 x.f4.f1,.int .i64 x.f4.f2,.str x.f4.f3,.str x.f4.f4,.int .i64 x.f4.f5,.arr 5 32 x.f4.f6],.int .i64 x.f5,.str x.f6,.agg [.int .i64 x.f7.f0,.int .i64 x.f7.f1]],wf PE 4 a:=h
 have h1:wf PE 4 (.int .i64 x.f1):=h _ (by simp)
 have h2:wf PE 4 (.int .i64 x.f2):=h _ (by simp)
 have h3:wf PE 4 (.int .i64 x.f3):=h _ (by simp)
 have h7:wf PE 4 (.agg [.int .i64 x.f7.f0,.int .i64 x.f7.f1]):=h _ (by simp)
 have h8:wf PE 3 (.int .i64 x.f7.f1):=h7 (.int .i64 x.f7.f1) (by simp)
 exact⟨wf_i64 h1,wf_i64 h2,wf_i64 h3,wf_i64 h8⟩
theorem law_DeskParses(x0:ByteArray)(hw:∀ m,∀ a∈[PE.enc 9 x0],wf PE m a):∃ k,F_l23_DeskParses k x0 (fun b=>b=true):=
 ⟨600000+0,DParses_s _ (Nat.le_add_right _ _) x0 rfl⟩
theorem law_DeskPrints(x0:S_api_Act)(hw:∀ m,∀ a∈[PE.enc 33 x0],wf PE m a):∃ k,F_l23_DeskPrints k x0.f0 x0.f1 x0.f2 x0.f3 x0.f4.f0 x0.f4.f1 x0.f4.f2 x0.f4.f3 x0.f4.f4 x0.f4.f5 x0.f4.f6 x0.f5 x0.f6 x0.f7.f0 x0.f7.f1 (fun b=>b=true):=
 ⟨600000+0,DPrints_s _ (Nat.le_add_right _ _) (wf_act (hw 5 _ (by simp))) rfl⟩
end Go.V
