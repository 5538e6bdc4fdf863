/-
  DERIVED. GIVEN WITH THE SEED: THE CARDS: each row of YtdpamhejneicdaaGreatDoorRows.lean that lists a variable, with what it lists TIED to the program's text (the seventh form; the later family's looks); each row that meets fmt, with fmt's text TOLD by the authors' own Lean function (tested against real Go, not proved from fmt's source: count such statements apart). THE CARD IS WHAT COUNTS. Prove the row's statement (the work); the ties are given (YtdpamhejneicdaaGreatDoorTie.lean); close each card by the builder's one call (the guide's Derived/Test/ToyasCard.lean, 'card_holds'). Laid BY PROGRAM, IN A SANDBOX (cutbox-door.mjs). By AI agents, Wed Nov 11 2026. No macro, syntax, notation, axiom, sorry.
-/
import Derived.Test.YtdpamhejneicdaaGreatDoorRows
import GoSem.ClaimSeven
namespace Go.Proofs.YtdpamhejneicdaaGreatDoor
namespace Rows

/-- THE TIED CARD OF 'proofprogramslaw09.DecideConnects'. -/
def decideConnectsCard : Claim7 := { stood := { row := decideConnectsRow, standIns := [], harness := (true, "118043afbedc393be800c94be9d176b3ad0f46a66881a1a20e99dd690caf24ae"), looks := true }, kinds := [], alts := [], laidByText := true, laidKinds := [.data], laidTests := true, laidLooks := .later }
def DecideConnectsCardSaid : Prop := Claim7.holds Tryz.pinned (.plain (OpenSpec.ofChange decideConnectsSpec)) decideConnectsCard

/-- THE TIED CARD OF 'proofprogramslaw09.DecideSearches'. -/
def decideSearchesCard : Claim7 := { stood := { row := decideSearchesRow, standIns := [], harness := (true, "118043afbedc393be800c94be9d176b3ad0f46a66881a1a20e99dd690caf24ae"), looks := true }, kinds := [], alts := [], laidByText := true, laidKinds := [.data], laidTests := true, laidLooks := .later }
def DecideSearchesCardSaid : Prop := Claim7.holds Tryz.pinned (.plain (OpenSpec.ofChange decideSearchesSpec)) decideSearchesCard

/-- THE TIED CARD OF 'proofprogramslaw09.DecideLess'. -/
def decideLessCard : Claim7 := { stood := { row := decideLessRow, standIns := [], harness := (true, "118043afbedc393be800c94be9d176b3ad0f46a66881a1a20e99dd690caf24ae"), looks := true }, kinds := [], alts := [], laidByText := true, laidKinds := [.data], laidTests := true, laidLooks := .later }
def DecideLessCardSaid : Prop := Claim7.holds Tryz.pinned (.plain (OpenSpec.ofChange decideLessSpec)) decideLessCard

/-- THE TIED CARD OF 'proofprogramslaw09.DecideBounds'. -/
def decideBoundsCard : Claim7 := { stood := { row := decideBoundsRow, standIns := [], harness := (true, "118043afbedc393be800c94be9d176b3ad0f46a66881a1a20e99dd690caf24ae"), looks := true }, kinds := [], alts := [], laidByText := true, laidKinds := [.data], laidTests := true, laidLooks := .later }
def DecideBoundsCardSaid : Prop := Claim7.holds Tryz.pinned (.plain (OpenSpec.ofChange decideBoundsSpec)) decideBoundsCard

/-- THE TIED CARD OF 'proofprogramslaw09.DecidePuts'. -/
def decidePutsCard : Claim7 := { stood := { row := decidePutsRow, standIns := [], harness := (true, "118043afbedc393be800c94be9d176b3ad0f46a66881a1a20e99dd690caf24ae"), looks := true }, kinds := [], alts := [], laidByText := true, laidKinds := [.data], laidTests := true, laidLooks := .later }
def DecidePutsCardSaid : Prop := Claim7.holds Tryz.pinned (.plain (OpenSpec.ofChange decidePutsSpec)) decidePutsCard

/-- THE TIED CARD OF 'proofprogramslaw21.RefuteValues'. -/
def refuteValuesCard : Claim7 := { stood := { row := refuteValuesRow, standIns := [], harness := (true, "118043afbedc393be800c94be9d176b3ad0f46a66881a1a20e99dd690caf24ae"), looks := true }, kinds := [], alts := [], laidByText := true, laidKinds := [.data], laidTests := true, laidLooks := .later }
def RefuteValuesCardSaid : Prop := Claim7.holds Tryz.pinned (.plain (OpenSpec.ofChange refuteValuesSpec)) refuteValuesCard

/-- THE TIED CARD OF 'proofprogramslaw21.RefuteMore'. -/
def refuteMoreCard : Claim7 := { stood := { row := refuteMoreRow, standIns := [], harness := (true, "118043afbedc393be800c94be9d176b3ad0f46a66881a1a20e99dd690caf24ae"), looks := true }, kinds := [], alts := [], laidByText := true, laidKinds := [.data], laidTests := true, laidLooks := .later }
def RefuteMoreCardSaid : Prop := Claim7.holds Tryz.pinned (.plain (OpenSpec.ofChange refuteMoreSpec)) refuteMoreCard

/-- THE TIED CARD OF 'proofprogramslaw21.RefuteFinds'. -/
def refuteFindsCard : Claim7 := { stood := { row := refuteFindsRow, standIns := [], harness := (true, "118043afbedc393be800c94be9d176b3ad0f46a66881a1a20e99dd690caf24ae"), looks := true }, kinds := [], alts := [], laidByText := true, laidKinds := [.data], laidTests := true, laidLooks := .later }
def RefuteFindsCardSaid : Prop := Claim7.holds Tryz.pinned (.plain (OpenSpec.ofChange refuteFindsSpec)) refuteFindsCard

/-- THE TIED CARD OF 'proofprogramslaw21.RefuteAnswers'. -/
def refuteAnswersCard : Claim7 := { stood := { row := refuteAnswersRow, standIns := [], harness := (true, "118043afbedc393be800c94be9d176b3ad0f46a66881a1a20e99dd690caf24ae"), looks := true }, kinds := [], alts := [], laidByText := true, laidKinds := [.data], laidTests := true, laidLooks := .later }
def RefuteAnswersCardSaid : Prop := Claim7.holds Tryz.pinned (.plain (OpenSpec.ofChange refuteAnswersSpec)) refuteAnswersCard

/-- THE TIED CARD OF 'proofprogramslaw32.ContestCandidates'. -/
def contestCandidatesCard : Claim7 := { stood := { row := contestCandidatesRow, standIns := [], harness := (true, "118043afbedc393be800c94be9d176b3ad0f46a66881a1a20e99dd690caf24ae"), looks := true }, kinds := [], alts := [], laidByText := true, laidKinds := [.data], laidTests := true, laidLooks := .later }
def ContestCandidatesCardSaid : Prop := Claim7.holds Tryz.pinned (.plain (OpenSpec.ofChange contestCandidatesSpec)) contestCandidatesCard

/-- THE TIED CARD OF 'proofprogramslaw40.TableInputs'. -/
def tableInputsCard : Claim7 := { stood := { row := tableInputsRow, standIns := [], harness := (true, "118043afbedc393be800c94be9d176b3ad0f46a66881a1a20e99dd690caf24ae"), looks := true }, kinds := [], alts := [], laidByText := true, laidKinds := [.data], laidTests := true, laidLooks := .later }
def TableInputsCardSaid : Prop := Claim7.holds Tryz.pinned (.plain (OpenSpec.ofChange tableInputsSpec)) tableInputsCard

/-- THE SECOND FORM's CARD OF 'proofprogramslaw09.DecideConnects'. -/
def decideConnectsUptoCard : Claim7 := { stood := { row := decideConnectsUptoRow, standIns := [], harness := (true, "118043afbedc393be800c94be9d176b3ad0f46a66881a1a20e99dd690caf24ae"), looks := true }, kinds := [], alts := [], laidByText := true, laidKinds := [.data], laidTests := true, laidLooks := .later }
def DecideConnectsUptoCardSaid : Prop := Claim7.holds Tryz.pinned (.plain (OpenSpec.upto decideConnectsSpec)) decideConnectsUptoCard

/-- THE SECOND FORM's CARD OF 'proofprogramslaw09.DecideSearches'. -/
def decideSearchesUptoCard : Claim7 := { stood := { row := decideSearchesUptoRow, standIns := [], harness := (true, "118043afbedc393be800c94be9d176b3ad0f46a66881a1a20e99dd690caf24ae"), looks := true }, kinds := [], alts := [], laidByText := true, laidKinds := [.data], laidTests := true, laidLooks := .later }
def DecideSearchesUptoCardSaid : Prop := Claim7.holds Tryz.pinned (.plain (OpenSpec.upto decideSearchesSpec)) decideSearchesUptoCard

/-- THE SECOND FORM's CARD OF 'proofprogramslaw09.DecideLess'. -/
def decideLessUptoCard : Claim7 := { stood := { row := decideLessUptoRow, standIns := [], harness := (true, "118043afbedc393be800c94be9d176b3ad0f46a66881a1a20e99dd690caf24ae"), looks := true }, kinds := [], alts := [], laidByText := true, laidKinds := [.data], laidTests := true, laidLooks := .later }
def DecideLessUptoCardSaid : Prop := Claim7.holds Tryz.pinned (.plain (OpenSpec.upto decideLessSpec)) decideLessUptoCard

/-- THE SECOND FORM's CARD OF 'proofprogramslaw09.DecideBounds'. -/
def decideBoundsUptoCard : Claim7 := { stood := { row := decideBoundsUptoRow, standIns := [], harness := (true, "118043afbedc393be800c94be9d176b3ad0f46a66881a1a20e99dd690caf24ae"), looks := true }, kinds := [], alts := [], laidByText := true, laidKinds := [.data], laidTests := true, laidLooks := .later }
def DecideBoundsUptoCardSaid : Prop := Claim7.holds Tryz.pinned (.plain (OpenSpec.upto decideBoundsSpec)) decideBoundsUptoCard

/-- THE SECOND FORM's CARD OF 'proofprogramslaw09.DecidePuts'. -/
def decidePutsUptoCard : Claim7 := { stood := { row := decidePutsUptoRow, standIns := [], harness := (true, "118043afbedc393be800c94be9d176b3ad0f46a66881a1a20e99dd690caf24ae"), looks := true }, kinds := [], alts := [], laidByText := true, laidKinds := [.data], laidTests := true, laidLooks := .later }
def DecidePutsUptoCardSaid : Prop := Claim7.holds Tryz.pinned (.plain (OpenSpec.upto decidePutsSpec)) decidePutsUptoCard

/-- THE SECOND FORM's CARD OF 'proofprogramslaw21.RefuteValues'. -/
def refuteValuesUptoCard : Claim7 := { stood := { row := refuteValuesUptoRow, standIns := [], harness := (true, "118043afbedc393be800c94be9d176b3ad0f46a66881a1a20e99dd690caf24ae"), looks := true }, kinds := [], alts := [], laidByText := true, laidKinds := [.data], laidTests := true, laidLooks := .later }
def RefuteValuesUptoCardSaid : Prop := Claim7.holds Tryz.pinned (.plain (OpenSpec.upto refuteValuesSpec)) refuteValuesUptoCard

/-- THE SECOND FORM's CARD OF 'proofprogramslaw21.RefuteMore'. -/
def refuteMoreUptoCard : Claim7 := { stood := { row := refuteMoreUptoRow, standIns := [], harness := (true, "118043afbedc393be800c94be9d176b3ad0f46a66881a1a20e99dd690caf24ae"), looks := true }, kinds := [], alts := [], laidByText := true, laidKinds := [.data], laidTests := true, laidLooks := .later }
def RefuteMoreUptoCardSaid : Prop := Claim7.holds Tryz.pinned (.plain (OpenSpec.upto refuteMoreSpec)) refuteMoreUptoCard

/-- THE SECOND FORM's CARD OF 'proofprogramslaw21.RefuteFinds'. -/
def refuteFindsUptoCard : Claim7 := { stood := { row := refuteFindsUptoRow, standIns := [], harness := (true, "118043afbedc393be800c94be9d176b3ad0f46a66881a1a20e99dd690caf24ae"), looks := true }, kinds := [], alts := [], laidByText := true, laidKinds := [.data], laidTests := true, laidLooks := .later }
def RefuteFindsUptoCardSaid : Prop := Claim7.holds Tryz.pinned (.plain (OpenSpec.upto refuteFindsSpec)) refuteFindsUptoCard

/-- THE SECOND FORM's CARD OF 'proofprogramslaw21.RefuteAnswers'. -/
def refuteAnswersUptoCard : Claim7 := { stood := { row := refuteAnswersUptoRow, standIns := [], harness := (true, "118043afbedc393be800c94be9d176b3ad0f46a66881a1a20e99dd690caf24ae"), looks := true }, kinds := [], alts := [], laidByText := true, laidKinds := [.data], laidTests := true, laidLooks := .later }
def RefuteAnswersUptoCardSaid : Prop := Claim7.holds Tryz.pinned (.plain (OpenSpec.upto refuteAnswersSpec)) refuteAnswersUptoCard

/-- THE SECOND FORM's CARD OF 'proofprogramslaw32.ContestCandidates'. -/
def contestCandidatesUptoCard : Claim7 := { stood := { row := contestCandidatesUptoRow, standIns := [], harness := (true, "118043afbedc393be800c94be9d176b3ad0f46a66881a1a20e99dd690caf24ae"), looks := true }, kinds := [], alts := [], laidByText := true, laidKinds := [.data], laidTests := true, laidLooks := .later }
def ContestCandidatesUptoCardSaid : Prop := Claim7.holds Tryz.pinned (.plain (OpenSpec.upto contestCandidatesSpec)) contestCandidatesUptoCard

/-- THE SECOND FORM's CARD OF 'proofprogramslaw40.TableInputs'. -/
def tableInputsUptoCard : Claim7 := { stood := { row := tableInputsUptoRow, standIns := [], harness := (true, "118043afbedc393be800c94be9d176b3ad0f46a66881a1a20e99dd690caf24ae"), looks := true }, kinds := [], alts := [], laidByText := true, laidKinds := [.data], laidTests := true, laidLooks := .later }
def TableInputsUptoCardSaid : Prop := Claim7.holds Tryz.pinned (.plain (OpenSpec.upto tableInputsSpec)) tableInputsUptoCard
end Rows
end Go.Proofs.YtdpamhejneicdaaGreatDoor
