import Derived.Test.YtdpamhejneicdaaGreatDoorZM1
namespace Go.AI
set_option linter.unusedVariables false
set_option linter.unusedSimpArgs false
open Go
set_option maxRecDepth 1000000
theorem val_nat_0 : ValuesAt .nat 0 := by unfold ValuesAt; kernel_rfl
theorem val_nat_1 : ValuesAt .nat 1 := by unfold ValuesAt; kernel_rfl
theorem val_nat_2 : ValuesAt .nat 2 := by unfold ValuesAt; kernel_rfl
theorem val_nat_3 : ValuesAt .nat 3 := by unfold ValuesAt; kernel_rfl
theorem val_nat_4 : ValuesAt .nat 4 := by unfold ValuesAt; kernel_rfl
theorem val_nat_5 : ValuesAt .nat 5 := by unfold ValuesAt; kernel_rfl
theorem val_unit_0 : ValuesAt .unit 0 := by unfold ValuesAt; kernel_rfl
theorem val_unit_1 : ValuesAt .unit 1 := by unfold ValuesAt; kernel_rfl
theorem val_unit_2 : ValuesAt .unit 2 := by unfold ValuesAt; kernel_rfl
theorem val_unit_3 : ValuesAt .unit 3 := by unfold ValuesAt; kernel_rfl
theorem val_unit_4 : ValuesAt .unit 4 := by unfold ValuesAt; kernel_rfl
theorem val_unit_5 : ValuesAt .unit 5 := by unfold ValuesAt; kernel_rfl
theorem val_natNat_0 : ValuesAt .natNat 0 := by unfold ValuesAt; kernel_rfl
theorem val_natNat_1 : ValuesAt .natNat 1 := by unfold ValuesAt; kernel_rfl
theorem val_natNat_2 : ValuesAt .natNat 2 := by unfold ValuesAt; kernel_rfl
theorem val_natNat_3 : ValuesAt .natNat 3 := by unfold ValuesAt; kernel_rfl
theorem val_natNat_4 : ValuesAt .natNat 4 := by unfold ValuesAt; kernel_rfl
theorem val_natNat_5 : ValuesAt .natNat 5 := by unfold ValuesAt; kernel_rfl
end Go.AI
