/- RefuteValues: the row's closed facts, one by one. -/
import Derived.Test.YtdpamhejneicdaaGreatDoorZF0
namespace Go.Proofs.YtdpamhejneicdaaGreatDoor
set_option linter.unusedVariables false
set_option linter.unusedSimpArgs false
open Go Go.AI
theorem inPlace8 : Tryz.prog.inPlace 8 = Rows.refuteValuesRow.inPlace := by kernel_rfl
theorem unfollowed8 : Tryz.prog.unfollowed 8 = Rows.refuteValuesRow.unfollowed := by kernel_rfl
theorem recurses8 : Tryz.prog.recurses 8 = Rows.refuteValuesRow.recurses := by kernel_rfl
theorem named8 : Tryz.prog.varsNamed 8 = Rows.refuteValuesRow.named := by kernel_rfl
theorem closed8 : joinedFacts Tryz.prog 8 Tryz.f8 Rows.refuteValuesSpec Rows.refuteValuesRow = true := by
  unfold joinedFacts
  rw [laidOut, mapsRowed0, stops0, stopKnobs0, inPlace8, unfollowed8, recurses8, named8, plainKeys0, heard0, mayEnter0, lifts0, make0]
  kernel_rfl
theorem fname8 : Tryz.prog.funcNamed "proofprograms/proofprogramslaw21.RefuteValues" = some 8 := by kernel_rfl
theorem inst8 : Tryz.f8.isInstance Tryz.prog Rows.refuteValuesRow.origin Rows.refuteValuesRow.targs := of_decide_eq_true (by kernel_rfl)
theorem wrap8 : Tryz.f8.isWrapper Tryz.prog Rows.refuteValuesRow.wrapper Rows.refuteValuesRow.mainSum := by unfold Func.isWrapper; first | (rw [if_pos (by decide +kernel)]; kernel_rfl) | (rw [if_neg (by decide +kernel)]; exact ⟨rfl, rfl⟩)
theorem wfText8 : Rows.refuteValuesRow.wfByText (OpenSpec.ofChange Rows.refuteValuesSpec) = true := by kernel_rfl
theorem goes8 : false = Rows.refuteValuesRow.goesBy Tryz.prog := by kernel_rfl
theorem noInit8 : Tryz.prog.inits.idxOf? 8 = none := by kernel_rfl
theorem want22 : Tryz.prog.wantsStandIn 22 = false := by kernel_rfl
theorem want5 : Tryz.prog.wantsStandIn 5 = false := by kernel_rfl
end Go.Proofs.YtdpamhejneicdaaGreatDoor
