/- The rows' closed facts on the whole program. -/
import Derived.Test.YtdpamhejneicdaaGreatDoorZTie
import Derived.Test.YtdpamhejneicdaaGreatDoorCards
namespace Go.Proofs.YtdpamhejneicdaaGreatDoor
set_option linter.unusedVariables false
set_option linter.unusedSimpArgs false
open Go Go.AI
theorem mapsRowed0 : mapsRowed Tryz.prog = true := by kernel_rfl
theorem stops0 : Tryz.prog.stops = [] := by kernel_rfl
theorem stopKnobs0 : Tryz.prog.stopKnobs = [] := by kernel_rfl
theorem lifts0 : Tryz.prog.liftsFinal = Rows.refuteValuesRow.lifted := by kernel_rfl
theorem heard0 : Tryz.prog.stopsHeard = true := by kernel_rfl
theorem mayEnter0 : Tryz.prog.mayEnter = true := by kernel_rfl
theorem plainKeys0 : Tryz.prog.plainKeys = Rows.refuteValuesRow.plainKeys := by kernel_rfl
theorem make0 : Tryz.prog.make = some Rows.refuteValuesRow.make := by kernel_rfl
theorem mainIs0 : Tryz.prog.mainIs = some (true, "118043afbedc393be800c94be9d176b3ad0f46a66881a1a20e99dd690caf24ae".toList) := by kernel_rfl
theorem looks0 : true = Tryz.prog.looks [] := by kernel_rfl
end Go.Proofs.YtdpamhejneicdaaGreatDoor

