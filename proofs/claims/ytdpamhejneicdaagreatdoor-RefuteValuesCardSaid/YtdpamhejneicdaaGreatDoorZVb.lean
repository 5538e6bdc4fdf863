import Derived.Test.YtdpamhejneicdaaGreatDoorZM1
namespace Go.AI
set_option linter.unusedVariables false
set_option linter.unusedSimpArgs false
open Go
set_option maxRecDepth 1000000
theorem val_list_0 : ValuesAt .list 0 := by unfold ValuesAt; kernel_rfl
theorem val_list_1 : ValuesAt .list 1 := by unfold ValuesAt; kernel_rfl
theorem val_list_2 : ValuesAt .list 2 := by unfold ValuesAt; kernel_rfl
theorem val_list_3 : ValuesAt .list 3 := by unfold ValuesAt; kernel_rfl
theorem val_list_4 : ValuesAt .list 4 := by unfold ValuesAt; kernel_rfl
theorem val_list_5 : ValuesAt .list 5 := by unfold ValuesAt; kernel_rfl
end Go.AI
