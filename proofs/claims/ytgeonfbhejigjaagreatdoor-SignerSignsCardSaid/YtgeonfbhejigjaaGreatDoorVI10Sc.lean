import Derived.Test.YtgeonfbhejigjaaGreatDoorVI10Sb
set_option linter.unusedVariables false
set_option linter.unusedSimpArgs false
set_option maxRecDepth 8000
namespace Go.V
end Go.V
