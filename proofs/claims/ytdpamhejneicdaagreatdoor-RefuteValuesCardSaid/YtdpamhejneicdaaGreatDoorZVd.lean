import Derived.Test.YtdpamhejneicdaaGreatDoorZM1
namespace Go.AI
set_option linter.unusedVariables false
set_option linter.unusedSimpArgs false
open Go
set_option maxRecDepth 1000000
theorem val_natList_4 : ValuesAt .natList 4 := by unfold ValuesAt; kernel_rfl
end Go.AI
