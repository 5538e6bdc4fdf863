/- DecideConnects: the row's closed facts, one by one. -/
import Derived.Test.YtdpamhejneicdaaGreatDoorZF0
namespace Go.Proofs.YtdpamhejneicdaaGreatDoor
set_option linter.unusedVariables false
set_option linter.unusedSimpArgs false
open Go Go.AI
theorem inPlace3 : Tryz.prog.inPlace 3 = Rows.decideConnectsRow.inPlace := by kernel_rfl
theorem unfollowed3 : Tryz.prog.unfollowed 3 = Rows.decideConnectsRow.unfollowed := by kernel_rfl
theorem recurses3 : Tryz.prog.recurses 3 = Rows.decideConnectsRow.recurses := by kernel_rfl
theorem named3 : Tryz.prog.varsNamed 3 = Rows.decideConnectsRow.named := by kernel_rfl
theorem closed3 : joinedFacts Tryz.prog 3 Tryz.f3 Rows.decideConnectsSpec Rows.decideConnectsRow = true := by
  unfold joinedFacts
  rw [laidOut, mapsRowed0, stops0, stopKnobs0, inPlace3, unfollowed3, recurses3, named3, plainKeys0, heard0, mayEnter0, lifts0, make0]
  kernel_rfl
theorem fname3 : Tryz.prog.funcNamed "proofprograms/proofprogramslaw09.DecideConnects" = some 3 := by kernel_rfl
theorem inst3 : Tryz.f3.isInstance Tryz.prog Rows.decideConnectsRow.origin Rows.decideConnectsRow.targs := of_decide_eq_true (by kernel_rfl)
theorem wrap3 : Tryz.f3.isWrapper Tryz.prog Rows.decideConnectsRow.wrapper Rows.decideConnectsRow.mainSum := by unfold Func.isWrapper; first | (rw [if_pos (by decide +kernel)]; kernel_rfl) | (rw [if_neg (by decide +kernel)]; exact ⟨rfl, rfl⟩)
theorem wfText3 : Rows.decideConnectsRow.wfByText (OpenSpec.ofChange Rows.decideConnectsSpec) = true := by kernel_rfl
theorem goes3 : false = Rows.decideConnectsRow.goesBy Tryz.prog := by kernel_rfl
theorem noInit3 : Tryz.prog.inits.idxOf? 3 = none := by kernel_rfl
theorem want22 : Tryz.prog.wantsStandIn 22 = false := by kernel_rfl
end Go.Proofs.YtdpamhejneicdaaGreatDoor

