import Derived.Test.YtgeonfbhejigjaaGreatDoorVI10P
import Derived.Test.YtgeonfbhejigjaaGreatDoorVJ09
set_option linter.unusedVariables false
set_option linter.unusedSimpArgs false
set_option maxRecDepth 4000
namespace Go.V
end Go.V
