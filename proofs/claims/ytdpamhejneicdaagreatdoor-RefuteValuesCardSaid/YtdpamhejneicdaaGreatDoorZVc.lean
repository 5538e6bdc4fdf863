import Derived.Test.YtdpamhejneicdaaGreatDoorZM1
namespace Go.AI
set_option linter.unusedVariables false
set_option linter.unusedSimpArgs false
open Go
set_option maxRecDepth 1000000
theorem val_natList_0 : ValuesAt .natList 0 := by unfold ValuesAt; kernel_rfl
theorem val_natList_1 : ValuesAt .natList 1 := by unfold ValuesAt; kernel_rfl
theorem val_natList_2 : ValuesAt .natList 2 := by unfold ValuesAt; kernel_rfl
theorem val_natList_3 : ValuesAt .natList 3 := by unfold ValuesAt; kernel_rfl
end Go.AI
