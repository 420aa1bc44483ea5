import Derived.Test.YtgeonfbhejigjaaGreatDoorVI10Ri
set_option linter.unusedVariables false
set_option linter.unusedSimpArgs false
set_option maxRecDepth 8000
namespace Go.V
def rLit:List Int:=[219,193,180,201,0,255,228,141,87,91,93,165,198,56,4,1,37,246,93,176,254,62,36,73,75,118,234,152,100,87,217,134]
abbrev hO:S_api_Head:=S_api_Head.mk 1 rLit z32
theorem k2:keyB str3=true:=by decide +kernel
theorem k4:keyB str5=true:=by decide +kernel
end Go.V
