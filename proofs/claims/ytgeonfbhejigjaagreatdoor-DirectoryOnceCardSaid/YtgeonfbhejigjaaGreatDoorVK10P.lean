import Derived.Test.YtgeonfbhejigjaaGreatDoorVK10N
set_option linter.unusedVariables false
set_option linter.unusedSimpArgs false
set_option maxRecDepth 8000
namespace Go.V
abbrev v5:List Int:=[(5:Int),(0:Int),(0:Int),(0:Int),(0:Int),(0:Int),(0:Int),(0:Int),(0:Int),(0:Int),(0:Int),(0:Int),(0:Int),(0:Int),(0:Int),(0:Int),(0:Int),(0:Int),(0:Int),(0:Int),(0:Int),(0:Int),(0:Int),(0:Int),(0:Int),(0:Int),(0:Int),(0:Int),(0:Int),(0:Int),(0:Int),(0:Int)]
theorem LDig.cons{x:S_api_Leaf}{l:List S_api_Leaf}(hx:Dig x.f0/\Dig x.f1)(h:LDig l):LDig (x::l):=List.forall_mem_cons.2 ⟨hx,h⟩
end Go.V
