import Derived.Test.YtgeonfbhejigjaaGreatDoorVK10N
set_option linter.unusedVariables false
set_option linter.unusedSimpArgs false
set_option maxRecDepth 8000
namespace Go.V
def shaC(m:List Int):List Int:=digL (match (m++tailOf m.length) with
 | l=>if l.length=64 then comp begin8 l else if l.length=128 then comp (comp begin8 (l.take 64)) (l.drop 64) else [])
theorem shaC1{m:List Int}(h:(m++tailOf m.length).length=64):shaL m=shaC m:=by
 unfold shaL shaC
 simp only[h,if_true]
 rw[absorb_one h]
abbrev v5:List Int:=[(5:Int),(0:Int),(0:Int),(0:Int),(0:Int),(0:Int),(0:Int),(0:Int),(0:Int),(0:Int),(0:Int),(0:Int),(0:Int),(0:Int),(0:Int),(0:Int),(0:Int),(0:Int),(0:Int),(0:Int),(0:Int),(0:Int),(0:Int),(0:Int),(0:Int),(0:Int),(0:Int),(0:Int),(0:Int),(0:Int),(0:Int),(0:Int)]
theorem LDig.cons{x:S_api_Leaf}{l:List S_api_Leaf}(hx:Dig x.f0/\Dig x.f1)(h:LDig l):LDig (x::l):=List.forall_mem_cons.2 ⟨hx,h⟩
end Go.V
