import Derived.Test.YtgeonfbhejigjaaGreatDoorVI10Re
set_option linter.unusedVariables false
set_option linter.unusedSimpArgs false
set_option maxRecDepth 4000
namespace Go.V
def hb(h:S_api_Head):List Int:=grp h.f0.toNat++h.f1++h.f2
def MayH(h:S_api_Head):Prop:=1<=h.f0/\h.f0<=200
instance (h:S_api_Head):Decidable (MayH h):=inferInstanceAs (Decidable (_/\_))
def keyB(key:ByteArray):Bool:=decide (1<=key.size)&&decide (key.size<=64)
abbrev G0:S_api_Signed:=S_api_Signed.mk H0 z32
end Go.V
