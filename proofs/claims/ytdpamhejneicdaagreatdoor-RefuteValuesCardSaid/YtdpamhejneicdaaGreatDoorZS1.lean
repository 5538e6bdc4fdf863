import Derived.Test.YtdpamhejneicdaaGreatDoorZTab
namespace Go.AI
set_option linter.unusedVariables false
set_option linter.unusedSimpArgs false
open Go
set_option maxRecDepth 1000000
theorem sane21 : FS G 400 (.call 36 [] []) = some (.ret (.bool true) []) := by kernel_rfl
end Go.AI
