/-
  NARROWER THAN 'FOR EVERY INPUT', by the rows' own cells (each row's printed sentence says how): DecideConnects: laid · DecideSearches: loops, laid · DecideLess: laid · DecideBounds: laid · DecidePuts: laid · RefuteValues: laid · RefuteMore: laid · RefuteFinds: laid · RefuteAnswers: laid · ContestCandidates: laid · TableInputs: laid.
  DERIVED. THE GIVEN ROWS OF THIS SEAT. 11 by the template 'for every input the law returns true; each argument reads behind the call as it read before'; 0 by the template 'total and deterministic' (their statements: YtdpamhejneicdaaGreatDoorTotals.lean).
  GIVEN WITH THE SEED: the statements are not yours to turn. If you find one false, say at which input.
  Laid BY PROGRAM, IN A SANDBOX (cutbox-rows.mjs): the forced cells as the released guide's own fill.sh prints them over the translation 378e5cf037dda9a4… (all of the seat's roots in one cut). By AI agents, Wed Nov 11 2026. No macro, syntax, notation, axiom, sorry.
-/
import Derived.Test.YtdpamhejneicdaaGreatDoorChecked
import GoSem.Claim
import GoSem.ClaimJoined
import GoSem.ClaimMapViews
import Derived.JoinedTies
import Derived.KernelRfl
namespace Go.Proofs.YtdpamhejneicdaaGreatDoor
/- THE CELL 'sum', in the pinned program and in every row, IS THE sha256 OF THE DUMP (.gsa) THAT YtdpamhejneicdaaGreatDoorProg.lean LOADS. Nothing in Lean hashes anything: it is a label: what it is worth is what the hold of that sum in a sandbox is worth. -/
noncomputable def Tryz.pinned : Pinned := { name := "ytdpamhejneicdaagreatdoor", sum := "378e5cf037dda9a45bbb81d396ac011c7eb2328365ce28cc4820cc7e06233f98", checked := Tryz.checked }
namespace Rows
def none {H : Type} : Left H := { results := [], args := [] }

/- WHAT THE LISTED PACKAGE-LEVEL VARIABLES READ AS WHEN THE CALL BEGINS. Each datum BY PROGRAM (the guide's laid-datum.mjs) off the statement by which the dump's own 'gosem.cut.vars' lays the variable. In a bare row this is a premise. The card (YtdpamhejneicdaaGreatDoorCards.lean) ties it to the program's text. -/
def laid_proofprograms_tree_arities {H : Type} : DataW H := .agg [.lit (.int .i64 0), .lit (.int .i64 0), .lit (.int .i64 1), .lit (.int .i64 2), .lit (.int .i64 0), .lit (.int .i64 1), .lit (.int .i64 3), .lit (.int .i64 0), .lit (.int .i64 2), .lit (.int .i64 3), .lit (.int .i64 2), .lit (.int .i64 1), .lit (.int .i64 1), .lit (.int .i64 0)]

/-- 'proofprogramslaw09.DecideConnects': WHATEVER THE INPUT: true; the input reads as it did. -/
def decideConnectsSpec : ChangeSpec := { name := "decideConnects", fn := fun _ => fun
  | [d] => { results := [.lit (.bool true)], args := [d] }
  | _ => none }
def decideConnectsRow : OpenClaim := { program := "ytdpamhejneicdaagreatdoor", sum := "378e5cf037dda9a45bbb81d396ac011c7eb2328365ce28cc4820cc7e06233f98", func := "proofprograms/proofprogramslaw09.DecideConnects", spec := "decideConnects", unfollowed := true, recurses := true, named := ["proofprograms/tree.arities"], apart := false, laid := [("proofprograms/tree.arities", laid_proofprograms_tree_arities)] }
def DecideConnectsSaid : Prop := decideConnectsRow.holds Tryz.pinned (OpenSpec.ofChange decideConnectsSpec)

/-- ITS FALSE NEIGHBOUR: 'it returns false'. Refute it at one input. -/
def decideConnectsWrong : ChangeSpec := { name := "decideConnects", fn := fun _ => fun
  | [d] => { results := [.lit (.bool false)], args := [d] }
  | _ => none }
def DecideConnectsWrongFalsely : Prop := decideConnectsRow.holds Tryz.pinned (OpenSpec.ofChange decideConnectsWrong)

/-- 'proofprogramslaw09.DecideSearches': WHATEVER THE INPUT: true; the input reads as it did. -/
def decideSearchesSpec : ChangeSpec := { name := "decideSearches", fn := fun _ => fun
  | [d1, d2, d3, d4] => { results := [.lit (.bool true)], args := [d1, d2, d3, d4] }
  | _ => none }
def decideSearchesRow : OpenClaim := { program := "ytdpamhejneicdaagreatdoor", sum := "378e5cf037dda9a45bbb81d396ac011c7eb2328365ce28cc4820cc7e06233f98", func := "proofprograms/proofprogramslaw09.DecideSearches", spec := "decideSearches", unfollowed := true, recurses := true, named := ["proofprograms/tree.arities"], loops := true, apart := false, laid := [("proofprograms/tree.arities", laid_proofprograms_tree_arities)] }
def DecideSearchesSaid : Prop := decideSearchesRow.holds Tryz.pinned (OpenSpec.ofChange decideSearchesSpec)

/-- ITS FALSE NEIGHBOUR: 'it returns false'. Refute it at one input. -/
def decideSearchesWrong : ChangeSpec := { name := "decideSearches", fn := fun _ => fun
  | [d1, d2, d3, d4] => { results := [.lit (.bool false)], args := [d1, d2, d3, d4] }
  | _ => none }
def DecideSearchesWrongFalsely : Prop := decideSearchesRow.holds Tryz.pinned (OpenSpec.ofChange decideSearchesWrong)

/-- 'proofprogramslaw09.DecideLess': WHATEVER THE INPUT: true; the input reads as it did. -/
def decideLessSpec : ChangeSpec := { name := "decideLess", fn := fun _ => fun
  | [d1, d2] => { results := [.lit (.bool true)], args := [d1, d2] }
  | _ => none }
def decideLessRow : OpenClaim := { program := "ytdpamhejneicdaagreatdoor", sum := "378e5cf037dda9a45bbb81d396ac011c7eb2328365ce28cc4820cc7e06233f98", func := "proofprograms/proofprogramslaw09.DecideLess", spec := "decideLess", unfollowed := true, recurses := true, named := ["proofprograms/tree.arities"], apart := false, laid := [("proofprograms/tree.arities", laid_proofprograms_tree_arities)] }
def DecideLessSaid : Prop := decideLessRow.holds Tryz.pinned (OpenSpec.ofChange decideLessSpec)

/-- ITS FALSE NEIGHBOUR: 'it returns false'. Refute it at one input. -/
def decideLessWrong : ChangeSpec := { name := "decideLess", fn := fun _ => fun
  | [d1, d2] => { results := [.lit (.bool false)], args := [d1, d2] }
  | _ => none }
def DecideLessWrongFalsely : Prop := decideLessRow.holds Tryz.pinned (OpenSpec.ofChange decideLessWrong)

/-- 'proofprogramslaw09.DecideBounds': WHATEVER THE INPUT: true; the input reads as it did. -/
def decideBoundsSpec : ChangeSpec := { name := "decideBounds", fn := fun _ => fun
  | [d1, d2, d3] => { results := [.lit (.bool true)], args := [d1, d2, d3] }
  | _ => none }
def decideBoundsRow : OpenClaim := { program := "ytdpamhejneicdaagreatdoor", sum := "378e5cf037dda9a45bbb81d396ac011c7eb2328365ce28cc4820cc7e06233f98", func := "proofprograms/proofprogramslaw09.DecideBounds", spec := "decideBounds", unfollowed := true, recurses := true, named := ["proofprograms/tree.arities"], apart := false, laid := [("proofprograms/tree.arities", laid_proofprograms_tree_arities)] }
def DecideBoundsSaid : Prop := decideBoundsRow.holds Tryz.pinned (OpenSpec.ofChange decideBoundsSpec)

/-- ITS FALSE NEIGHBOUR: 'it returns false'. Refute it at one input. -/
def decideBoundsWrong : ChangeSpec := { name := "decideBounds", fn := fun _ => fun
  | [d1, d2, d3] => { results := [.lit (.bool false)], args := [d1, d2, d3] }
  | _ => none }
def DecideBoundsWrongFalsely : Prop := decideBoundsRow.holds Tryz.pinned (OpenSpec.ofChange decideBoundsWrong)

/-- 'proofprogramslaw09.DecidePuts': WHATEVER THE INPUT: true; the input reads as it did. -/
def decidePutsSpec : ChangeSpec := { name := "decidePuts", fn := fun _ => fun
  | [d] => { results := [.lit (.bool true)], args := [d] }
  | _ => none }
def decidePutsRow : OpenClaim := { program := "ytdpamhejneicdaagreatdoor", sum := "378e5cf037dda9a45bbb81d396ac011c7eb2328365ce28cc4820cc7e06233f98", func := "proofprograms/proofprogramslaw09.DecidePuts", spec := "decidePuts", unfollowed := true, recurses := true, named := ["proofprograms/tree.arities"], apart := false, laid := [("proofprograms/tree.arities", laid_proofprograms_tree_arities)] }
def DecidePutsSaid : Prop := decidePutsRow.holds Tryz.pinned (OpenSpec.ofChange decidePutsSpec)

/-- ITS FALSE NEIGHBOUR: 'it returns false'. Refute it at one input. -/
def decidePutsWrong : ChangeSpec := { name := "decidePuts", fn := fun _ => fun
  | [d] => { results := [.lit (.bool false)], args := [d] }
  | _ => none }
def DecidePutsWrongFalsely : Prop := decidePutsRow.holds Tryz.pinned (OpenSpec.ofChange decidePutsWrong)

/-- 'proofprogramslaw21.RefuteValues': WHATEVER THE INPUT: true; the input reads as it did. -/
def refuteValuesSpec : ChangeSpec := { name := "refuteValues", fn := fun _ => fun
  | [d1, d2, d3] => { results := [.lit (.bool true)], args := [d1, d2, d3] }
  | _ => none }
def refuteValuesRow : OpenClaim := { program := "ytdpamhejneicdaagreatdoor", sum := "378e5cf037dda9a45bbb81d396ac011c7eb2328365ce28cc4820cc7e06233f98", func := "proofprograms/proofprogramslaw21.RefuteValues", spec := "refuteValues", unfollowed := true, recurses := true, named := ["proofprograms/tree.arities"], apart := false, laid := [("proofprograms/tree.arities", laid_proofprograms_tree_arities)] }
def RefuteValuesSaid : Prop := refuteValuesRow.holds Tryz.pinned (OpenSpec.ofChange refuteValuesSpec)

/-- ITS FALSE NEIGHBOUR: 'it returns false'. Refute it at one input. -/
def refuteValuesWrong : ChangeSpec := { name := "refuteValues", fn := fun _ => fun
  | [d1, d2, d3] => { results := [.lit (.bool false)], args := [d1, d2, d3] }
  | _ => none }
def RefuteValuesWrongFalsely : Prop := refuteValuesRow.holds Tryz.pinned (OpenSpec.ofChange refuteValuesWrong)

/-- 'proofprogramslaw21.RefuteMore': WHATEVER THE INPUT: true; the input reads as it did. -/
def refuteMoreSpec : ChangeSpec := { name := "refuteMore", fn := fun _ => fun
  | [d] => { results := [.lit (.bool true)], args := [d] }
  | _ => none }
def refuteMoreRow : OpenClaim := { program := "ytdpamhejneicdaagreatdoor", sum := "378e5cf037dda9a45bbb81d396ac011c7eb2328365ce28cc4820cc7e06233f98", func := "proofprograms/proofprogramslaw21.RefuteMore", spec := "refuteMore", unfollowed := true, recurses := true, named := ["proofprograms/tree.arities"], apart := false, laid := [("proofprograms/tree.arities", laid_proofprograms_tree_arities)] }
def RefuteMoreSaid : Prop := refuteMoreRow.holds Tryz.pinned (OpenSpec.ofChange refuteMoreSpec)

/-- ITS FALSE NEIGHBOUR: 'it returns false'. Refute it at one input. -/
def refuteMoreWrong : ChangeSpec := { name := "refuteMore", fn := fun _ => fun
  | [d] => { results := [.lit (.bool false)], args := [d] }
  | _ => none }
def RefuteMoreWrongFalsely : Prop := refuteMoreRow.holds Tryz.pinned (OpenSpec.ofChange refuteMoreWrong)

/-- 'proofprogramslaw21.RefuteFinds': WHATEVER THE INPUT: true; the input reads as it did. -/
def refuteFindsSpec : ChangeSpec := { name := "refuteFinds", fn := fun _ => fun
  | [d] => { results := [.lit (.bool true)], args := [d] }
  | _ => none }
def refuteFindsRow : OpenClaim := { program := "ytdpamhejneicdaagreatdoor", sum := "378e5cf037dda9a45bbb81d396ac011c7eb2328365ce28cc4820cc7e06233f98", func := "proofprograms/proofprogramslaw21.RefuteFinds", spec := "refuteFinds", unfollowed := true, recurses := true, named := ["proofprograms/tree.arities"], apart := false, laid := [("proofprograms/tree.arities", laid_proofprograms_tree_arities)] }
def RefuteFindsSaid : Prop := refuteFindsRow.holds Tryz.pinned (OpenSpec.ofChange refuteFindsSpec)

/-- ITS FALSE NEIGHBOUR: 'it returns false'. Refute it at one input. -/
def refuteFindsWrong : ChangeSpec := { name := "refuteFinds", fn := fun _ => fun
  | [d] => { results := [.lit (.bool false)], args := [d] }
  | _ => none }
def RefuteFindsWrongFalsely : Prop := refuteFindsRow.holds Tryz.pinned (OpenSpec.ofChange refuteFindsWrong)

/-- 'proofprogramslaw21.RefuteAnswers': WHATEVER THE INPUT: true; the input reads as it did. -/
def refuteAnswersSpec : ChangeSpec := { name := "refuteAnswers", fn := fun _ => fun
  | [d] => { results := [.lit (.bool true)], args := [d] }
  | _ => none }
def refuteAnswersRow : OpenClaim := { program := "ytdpamhejneicdaagreatdoor", sum := "378e5cf037dda9a45bbb81d396ac011c7eb2328365ce28cc4820cc7e06233f98", func := "proofprograms/proofprogramslaw21.RefuteAnswers", spec := "refuteAnswers", unfollowed := true, recurses := true, named := ["proofprograms/tree.arities"], apart := false, laid := [("proofprograms/tree.arities", laid_proofprograms_tree_arities)] }
def RefuteAnswersSaid : Prop := refuteAnswersRow.holds Tryz.pinned (OpenSpec.ofChange refuteAnswersSpec)

/-- ITS FALSE NEIGHBOUR: 'it returns false'. Refute it at one input. -/
def refuteAnswersWrong : ChangeSpec := { name := "refuteAnswers", fn := fun _ => fun
  | [d] => { results := [.lit (.bool false)], args := [d] }
  | _ => none }
def RefuteAnswersWrongFalsely : Prop := refuteAnswersRow.holds Tryz.pinned (OpenSpec.ofChange refuteAnswersWrong)

/-- 'proofprogramslaw32.ContestCandidates': WHATEVER THE INPUT: true; the input reads as it did. -/
def contestCandidatesSpec : ChangeSpec := { name := "contestCandidates", fn := fun _ => fun
  | [d1, d2] => { results := [.lit (.bool true)], args := [d1, d2] }
  | _ => none }
def contestCandidatesRow : OpenClaim := { program := "ytdpamhejneicdaagreatdoor", sum := "378e5cf037dda9a45bbb81d396ac011c7eb2328365ce28cc4820cc7e06233f98", func := "proofprograms/proofprogramslaw32.ContestCandidates", spec := "contestCandidates", unfollowed := true, recurses := true, named := ["proofprograms/tree.arities"], apart := false, laid := [("proofprograms/tree.arities", laid_proofprograms_tree_arities)] }
def ContestCandidatesSaid : Prop := contestCandidatesRow.holds Tryz.pinned (OpenSpec.ofChange contestCandidatesSpec)

/-- ITS FALSE NEIGHBOUR: 'it returns false'. Refute it at one input. -/
def contestCandidatesWrong : ChangeSpec := { name := "contestCandidates", fn := fun _ => fun
  | [d1, d2] => { results := [.lit (.bool false)], args := [d1, d2] }
  | _ => none }
def ContestCandidatesWrongFalsely : Prop := contestCandidatesRow.holds Tryz.pinned (OpenSpec.ofChange contestCandidatesWrong)

/-- 'proofprogramslaw40.TableInputs': WHATEVER THE INPUT: true; the input reads as it did. -/
def tableInputsSpec : ChangeSpec := { name := "tableInputs", fn := fun _ => fun
  | [d] => { results := [.lit (.bool true)], args := [d] }
  | _ => none }
def tableInputsRow : OpenClaim := { program := "ytdpamhejneicdaagreatdoor", sum := "378e5cf037dda9a45bbb81d396ac011c7eb2328365ce28cc4820cc7e06233f98", func := "proofprograms/proofprogramslaw40.TableInputs", spec := "tableInputs", unfollowed := true, recurses := true, named := ["proofprograms/tree.arities"], apart := false, laid := [("proofprograms/tree.arities", laid_proofprograms_tree_arities)] }
def TableInputsSaid : Prop := tableInputsRow.holds Tryz.pinned (OpenSpec.ofChange tableInputsSpec)

/-- ITS FALSE NEIGHBOUR: 'it returns false'. Refute it at one input. -/
def tableInputsWrong : ChangeSpec := { name := "tableInputs", fn := fun _ => fun
  | [d] => { results := [.lit (.bool false)], args := [d] }
  | _ => none }
def TableInputsWrongFalsely : Prop := tableInputsRow.holds Tryz.pinned (OpenSpec.ofChange tableInputsWrong)

/- THE SECOND FORM. 'bulk': how many values and letters a reading holds, each counted each time it is reached (what is shared counts as often as it is met; a slice's spare places count too). A statement '..UptoSaid' is the law's where the arguments, and the package variables that the reading takes, are together of bulk at most 1048576: NARROWER than '..Said'. Prove '..Said' where nothing that the law and all that it calls make is longer than what came in: it says more and counts as full. Else prove '..UptoSaid'. A law counts once. -/
mutual
def uptoBulk {H : Type} : DataW H → Nat
  | .lit (.string bytes) => bytes.length + 1
  | .lit _ => 1
  | .nil => 1
  | .ptr d => uptoBulk d + 1
  | .slice elems spare => uptoBulkAll elems + uptoBulkAll spare + 1
  | .agg parts => uptoBulkAll parts + 1
  | .iface _ d => uptoBulk d + 1
  | .map entries => uptoBulkEntries entries + 1
  | .held _ => 1
def uptoBulkAll {H : Type} : List (DataW H) → Nat
  | [] => 0
  | d :: r => uptoBulk d + uptoBulkAll r
def uptoBulkEntries {H : Type} : List (Lit × DataW H) → Nat
  | [] => 0
  | x :: r => uptoBulkEntry x + uptoBulkEntries r
def uptoBulkEntry {H : Type} : Lit × DataW H → Nat
  | (.string bytes, d) => bytes.length + uptoBulk d + 1
  | (_, d) => uptoBulk d + 1
 end
def uptoSmall : (H : Type) → List (DataW H) → Bool := fun _ ds => decide (uptoBulkAll ds ≤ 1048576)
def OpenSpec.upto (s : _root_.Go.ChangeSpec) : _root_.Go.OpenSpec := { _root_.Go.OpenSpec.ofChange s with cond := some uptoSmall }

/-- 'proofprogramslaw09.DecideConnects', WHERE WHAT IT READS IS OF BULK AT MOST 1048576: true; the input reads as it did. -/
def decideConnectsUptoRow : OpenClaim := { program := "ytdpamhejneicdaagreatdoor", sum := "378e5cf037dda9a45bbb81d396ac011c7eb2328365ce28cc4820cc7e06233f98", func := "proofprograms/proofprogramslaw09.DecideConnects", spec := "decideConnects", unfollowed := true, recurses := true, named := ["proofprograms/tree.arities"], apart := false, laid := [("proofprograms/tree.arities", laid_proofprograms_tree_arities)], narrowed := true }
def DecideConnectsUptoSaid : Prop := decideConnectsUptoRow.holds Tryz.pinned (OpenSpec.upto decideConnectsSpec)

/-- 'proofprogramslaw09.DecideSearches', WHERE WHAT IT READS IS OF BULK AT MOST 1048576: true; the input reads as it did. -/
def decideSearchesUptoRow : OpenClaim := { program := "ytdpamhejneicdaagreatdoor", sum := "378e5cf037dda9a45bbb81d396ac011c7eb2328365ce28cc4820cc7e06233f98", func := "proofprograms/proofprogramslaw09.DecideSearches", spec := "decideSearches", unfollowed := true, recurses := true, named := ["proofprograms/tree.arities"], loops := true, apart := false, laid := [("proofprograms/tree.arities", laid_proofprograms_tree_arities)], narrowed := true }
def DecideSearchesUptoSaid : Prop := decideSearchesUptoRow.holds Tryz.pinned (OpenSpec.upto decideSearchesSpec)

/-- 'proofprogramslaw09.DecideLess', WHERE WHAT IT READS IS OF BULK AT MOST 1048576: true; the input reads as it did. -/
def decideLessUptoRow : OpenClaim := { program := "ytdpamhejneicdaagreatdoor", sum := "378e5cf037dda9a45bbb81d396ac011c7eb2328365ce28cc4820cc7e06233f98", func := "proofprograms/proofprogramslaw09.DecideLess", spec := "decideLess", unfollowed := true, recurses := true, named := ["proofprograms/tree.arities"], apart := false, laid := [("proofprograms/tree.arities", laid_proofprograms_tree_arities)], narrowed := true }
def DecideLessUptoSaid : Prop := decideLessUptoRow.holds Tryz.pinned (OpenSpec.upto decideLessSpec)

/-- 'proofprogramslaw09.DecideBounds', WHERE WHAT IT READS IS OF BULK AT MOST 1048576: true; the input reads as it did. -/
def decideBoundsUptoRow : OpenClaim := { program := "ytdpamhejneicdaagreatdoor", sum := "378e5cf037dda9a45bbb81d396ac011c7eb2328365ce28cc4820cc7e06233f98", func := "proofprograms/proofprogramslaw09.DecideBounds", spec := "decideBounds", unfollowed := true, recurses := true, named := ["proofprograms/tree.arities"], apart := false, laid := [("proofprograms/tree.arities", laid_proofprograms_tree_arities)], narrowed := true }
def DecideBoundsUptoSaid : Prop := decideBoundsUptoRow.holds Tryz.pinned (OpenSpec.upto decideBoundsSpec)

/-- 'proofprogramslaw09.DecidePuts', WHERE WHAT IT READS IS OF BULK AT MOST 1048576: true; the input reads as it did. -/
def decidePutsUptoRow : OpenClaim := { program := "ytdpamhejneicdaagreatdoor", sum := "378e5cf037dda9a45bbb81d396ac011c7eb2328365ce28cc4820cc7e06233f98", func := "proofprograms/proofprogramslaw09.DecidePuts", spec := "decidePuts", unfollowed := true, recurses := true, named := ["proofprograms/tree.arities"], apart := false, laid := [("proofprograms/tree.arities", laid_proofprograms_tree_arities)], narrowed := true }
def DecidePutsUptoSaid : Prop := decidePutsUptoRow.holds Tryz.pinned (OpenSpec.upto decidePutsSpec)

/-- 'proofprogramslaw21.RefuteValues', WHERE WHAT IT READS IS OF BULK AT MOST 1048576: true; the input reads as it did. -/
def refuteValuesUptoRow : OpenClaim := { program := "ytdpamhejneicdaagreatdoor", sum := "378e5cf037dda9a45bbb81d396ac011c7eb2328365ce28cc4820cc7e06233f98", func := "proofprograms/proofprogramslaw21.RefuteValues", spec := "refuteValues", unfollowed := true, recurses := true, named := ["proofprograms/tree.arities"], apart := false, laid := [("proofprograms/tree.arities", laid_proofprograms_tree_arities)], narrowed := true }
def RefuteValuesUptoSaid : Prop := refuteValuesUptoRow.holds Tryz.pinned (OpenSpec.upto refuteValuesSpec)

/-- 'proofprogramslaw21.RefuteMore', WHERE WHAT IT READS IS OF BULK AT MOST 1048576: true; the input reads as it did. -/
def refuteMoreUptoRow : OpenClaim := { program := "ytdpamhejneicdaagreatdoor", sum := "378e5cf037dda9a45bbb81d396ac011c7eb2328365ce28cc4820cc7e06233f98", func := "proofprograms/proofprogramslaw21.RefuteMore", spec := "refuteMore", unfollowed := true, recurses := true, named := ["proofprograms/tree.arities"], apart := false, laid := [("proofprograms/tree.arities", laid_proofprograms_tree_arities)], narrowed := true }
def RefuteMoreUptoSaid : Prop := refuteMoreUptoRow.holds Tryz.pinned (OpenSpec.upto refuteMoreSpec)

/-- 'proofprogramslaw21.RefuteFinds', WHERE WHAT IT READS IS OF BULK AT MOST 1048576: true; the input reads as it did. -/
def refuteFindsUptoRow : OpenClaim := { program := "ytdpamhejneicdaagreatdoor", sum := "378e5cf037dda9a45bbb81d396ac011c7eb2328365ce28cc4820cc7e06233f98", func := "proofprograms/proofprogramslaw21.RefuteFinds", spec := "refuteFinds", unfollowed := true, recurses := true, named := ["proofprograms/tree.arities"], apart := false, laid := [("proofprograms/tree.arities", laid_proofprograms_tree_arities)], narrowed := true }
def RefuteFindsUptoSaid : Prop := refuteFindsUptoRow.holds Tryz.pinned (OpenSpec.upto refuteFindsSpec)

/-- 'proofprogramslaw21.RefuteAnswers', WHERE WHAT IT READS IS OF BULK AT MOST 1048576: true; the input reads as it did. -/
def refuteAnswersUptoRow : OpenClaim := { program := "ytdpamhejneicdaagreatdoor", sum := "378e5cf037dda9a45bbb81d396ac011c7eb2328365ce28cc4820cc7e06233f98", func := "proofprograms/proofprogramslaw21.RefuteAnswers", spec := "refuteAnswers", unfollowed := true, recurses := true, named := ["proofprograms/tree.arities"], apart := false, laid := [("proofprograms/tree.arities", laid_proofprograms_tree_arities)], narrowed := true }
def RefuteAnswersUptoSaid : Prop := refuteAnswersUptoRow.holds Tryz.pinned (OpenSpec.upto refuteAnswersSpec)

/-- 'proofprogramslaw32.ContestCandidates', WHERE WHAT IT READS IS OF BULK AT MOST 1048576: true; the input reads as it did. -/
def contestCandidatesUptoRow : OpenClaim := { program := "ytdpamhejneicdaagreatdoor", sum := "378e5cf037dda9a45bbb81d396ac011c7eb2328365ce28cc4820cc7e06233f98", func := "proofprograms/proofprogramslaw32.ContestCandidates", spec := "contestCandidates", unfollowed := true, recurses := true, named := ["proofprograms/tree.arities"], apart := false, laid := [("proofprograms/tree.arities", laid_proofprograms_tree_arities)], narrowed := true }
def ContestCandidatesUptoSaid : Prop := contestCandidatesUptoRow.holds Tryz.pinned (OpenSpec.upto contestCandidatesSpec)

/-- 'proofprogramslaw40.TableInputs', WHERE WHAT IT READS IS OF BULK AT MOST 1048576: true; the input reads as it did. -/
def tableInputsUptoRow : OpenClaim := { program := "ytdpamhejneicdaagreatdoor", sum := "378e5cf037dda9a45bbb81d396ac011c7eb2328365ce28cc4820cc7e06233f98", func := "proofprograms/proofprogramslaw40.TableInputs", spec := "tableInputs", unfollowed := true, recurses := true, named := ["proofprograms/tree.arities"], apart := false, laid := [("proofprograms/tree.arities", laid_proofprograms_tree_arities)], narrowed := true }
def TableInputsUptoSaid : Prop := tableInputsUptoRow.holds Tryz.pinned (OpenSpec.upto tableInputsSpec)

end Rows
end Go.Proofs.YtdpamhejneicdaaGreatDoor
