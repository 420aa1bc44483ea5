import Derived.Test.YtgeonfbhejigjaaGreatDoorVI10N
set_option linter.unusedVariables false
set_option linter.unusedSimpArgs false
set_option maxRecDepth 8000
namespace Go.V
def shaC(m:List Int):List Int:=digL (match (m++tailOf m.length) with
 | l=>if l.length=64 then comp begin8 l else if l.length=128 then comp (comp begin8 (l.take 64)) (l.drop 64) else [])
theorem shaC1{m:List Int}(h:(m++tailOf m.length).length=64):shaL m=shaC m:=by
 unfold shaL shaC
 simp only[h,if_true]
 rw[absorb_one h]
abbrev v5:List Int:=[(5:Int),(0:Int),(0:Int),(0:Int),(0:Int),(0:Int),(0:Int),(0:Int),(0:Int),(0:Int),(0:Int),(0:Int),(0:Int),(0:Int),(0:Int),(0:Int),(0:Int),(0:Int),(0:Int),(0:Int),(0:Int),(0:Int),(0:Int),(0:Int),(0:Int),(0:Int),(0:Int),(0:Int),(0:Int),(0:Int),(0:Int),(0:Int)]
abbrev p128:List Int:=[(128:Int),(0:Int),(0:Int),(0:Int),(0:Int),(0:Int),(0:Int),(0:Int),(0:Int),(0:Int),(0:Int),(0:Int),(0:Int),(0:Int),(0:Int),(0:Int),(0:Int),(0:Int),(0:Int),(0:Int),(0:Int),(0:Int),(0:Int),(0:Int),(0:Int),(0:Int),(0:Int),(0:Int),(0:Int),(0:Int),(0:Int),(0:Int)]
abbrev v6:List Int:=[(6:Int),(0:Int),(0:Int),(0:Int),(0:Int),(0:Int),(0:Int),(0:Int),(0:Int),(0:Int),(0:Int),(0:Int),(0:Int),(0:Int),(0:Int),(0:Int),(0:Int),(0:Int),(0:Int),(0:Int),(0:Int),(0:Int),(0:Int),(0:Int),(0:Int),(0:Int),(0:Int),(0:Int),(0:Int),(0:Int),(0:Int),(0:Int)]
abbrev lfA:S_api_Leaf:=⟨List.replicate 32 0,v5⟩
abbrev lfB:S_api_Leaf:=⟨p128,v6⟩
theorem LDig.cons{x:S_api_Leaf}{l:List S_api_Leaf}(hx:Dig x.f0/\Dig x.f1)(h:LDig l):LDig (x::l):=List.forall_mem_cons.2 ⟨hx,h⟩
end Go.V
