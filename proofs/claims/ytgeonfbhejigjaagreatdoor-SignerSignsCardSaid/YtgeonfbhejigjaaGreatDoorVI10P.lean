import Derived.Test.YtgeonfbhejigjaaGreatDoorVI10N
set_option linter.unusedVariables false
set_option linter.unusedSimpArgs false
set_option maxRecDepth 8000
namespace Go.V
theorem dig_ok{d:List Int}(h:(decide (d.length=32)&&d.all fun x=>decide (0<=x)&&decide (x<=255))=true):Dig d:=by
 rw[Bool.and_eq_true,List.all_eq_true] at h
 refine⟨of_decide_eq_true h.1,fun x hx=>?_⟩
 have:=h.2 x hx
 rw[Bool.and_eq_true] at this
 exact⟨of_decide_eq_true this.1,of_decide_eq_true this.2⟩
def shaC(m:List Int):List Int:=digL (match (m++tailOf m.length) with
 | l=>if l.length=64 then comp begin8 l else if l.length=128 then comp (comp begin8 (l.take 64)) (l.drop 64) else [])
theorem shaC1{m:List Int}(h:(m++tailOf m.length).length=64):shaL m=shaC m:=by
 unfold shaL shaC
 simp only[h,if_true]
 rw[absorb_one h]
theorem shaC2{m:List Int}(h:(m++tailOf m.length).length=128):shaL m=shaC m:=by
 unfold shaL shaC
 have h0:¬(128=64):=by decide
 simp only[h,h0,if_true,if_false]
 rw[absorb_long (by omega),absorb_one (by rw[List.length_drop,h])]
abbrev v5:List Int:=[(5:Int),(0:Int),(0:Int),(0:Int),(0:Int),(0:Int),(0:Int),(0:Int),(0:Int),(0:Int),(0:Int),(0:Int),(0:Int),(0:Int),(0:Int),(0:Int),(0:Int),(0:Int),(0:Int),(0:Int),(0:Int),(0:Int),(0:Int),(0:Int),(0:Int),(0:Int),(0:Int),(0:Int),(0:Int),(0:Int),(0:Int),(0:Int)]
abbrev p128:List Int:=[(128:Int),(0:Int),(0:Int),(0:Int),(0:Int),(0:Int),(0:Int),(0:Int),(0:Int),(0:Int),(0:Int),(0:Int),(0:Int),(0:Int),(0:Int),(0:Int),(0:Int),(0:Int),(0:Int),(0:Int),(0:Int),(0:Int),(0:Int),(0:Int),(0:Int),(0:Int),(0:Int),(0:Int),(0:Int),(0:Int),(0:Int),(0:Int)]
abbrev v6:List Int:=[(6:Int),(0:Int),(0:Int),(0:Int),(0:Int),(0:Int),(0:Int),(0:Int),(0:Int),(0:Int),(0:Int),(0:Int),(0:Int),(0:Int),(0:Int),(0:Int),(0:Int),(0:Int),(0:Int),(0:Int),(0:Int),(0:Int),(0:Int),(0:Int),(0:Int),(0:Int),(0:Int),(0:Int),(0:Int),(0:Int),(0:Int),(0:Int)]
abbrev lfA:S_api_Leaf:=⟨List.replicate 32 0,v5⟩
abbrev lfB:S_api_Leaf:=⟨p128,v6⟩
theorem LDig.cons{x:S_api_Leaf}{l:List S_api_Leaf}(hx:Dig x.f0/\Dig x.f1)(h:LDig l):LDig (x::l):=List.forall_mem_cons.2 ⟨hx,h⟩
theorem eN:rootE 32 []=0:=by decide +kernel
theorem rN:rootR 32 []=digT 32 .nil:=by unfold rootR;rw[if_pos eN];rfl
end Go.V
