import Derived.Test.YtdpamhejneicdaaGreatDoorZM1
namespace Go.AI
set_option linter.unusedVariables false
set_option linter.unusedSimpArgs false
open Go
set_option maxRecDepth 1000000
def TypAt (s : PTy) (l : List Val) : Prop := l.map (fun v => FS G 60 (.call 39 [v.enc] [])) = l.map (fun _ => some (.ret (.tuple [s.enc, .int .i64 0]) []))
theorem typ_nat : TypAt .nat (allM .nat 5) := by unfold TypAt; kernel_rfl
theorem typ_list : TypAt .list (allM .list 5) := by unfold TypAt; kernel_rfl
theorem typ_unit : TypAt .unit (allM .unit 5) := by unfold TypAt; kernel_rfl
theorem typ_natNat : TypAt .natNat (allM .natNat 5) := by unfold TypAt; kernel_rfl
theorem typ_natList_0_0 : TypAt .natList (((valsM .natList 0).drop 0).take 20) := by unfold TypAt; kernel_rfl
theorem typ_natList_0_1 : TypAt .natList (((valsM .natList 0).drop 20).take 20) := by unfold TypAt; kernel_rfl
theorem typ_natList_0_2 : TypAt .natList (((valsM .natList 0).drop 40).take 20) := by unfold TypAt; kernel_rfl
theorem typ_natList_1_0 : TypAt .natList (((valsM .natList 1).drop 0).take 20) := by unfold TypAt; kernel_rfl
theorem typ_natList_1_1 : TypAt .natList (((valsM .natList 1).drop 20).take 20) := by unfold TypAt; kernel_rfl
theorem typ_natList_1_2 : TypAt .natList (((valsM .natList 1).drop 40).take 20) := by unfold TypAt; kernel_rfl
theorem typ_natList_2_0 : TypAt .natList (((valsM .natList 2).drop 0).take 20) := by unfold TypAt; kernel_rfl
theorem typ_natList_2_1 : TypAt .natList (((valsM .natList 2).drop 20).take 20) := by unfold TypAt; kernel_rfl
theorem typ_natList_2_2 : TypAt .natList (((valsM .natList 2).drop 40).take 20) := by unfold TypAt; kernel_rfl
theorem typ_natList_3_0 : TypAt .natList (((valsM .natList 3).drop 0).take 20) := by unfold TypAt; kernel_rfl
theorem typ_natList_3_1 : TypAt .natList (((valsM .natList 3).drop 20).take 20) := by unfold TypAt; kernel_rfl
theorem typ_natList_3_2 : TypAt .natList (((valsM .natList 3).drop 40).take 20) := by unfold TypAt; kernel_rfl
theorem typ_natList_4_0 : TypAt .natList (((valsM .natList 4).drop 0).take 20) := by unfold TypAt; kernel_rfl
theorem typ_natList_4_1 : TypAt .natList (((valsM .natList 4).drop 20).take 20) := by unfold TypAt; kernel_rfl
theorem typ_natList_4_2 : TypAt .natList (((valsM .natList 4).drop 40).take 20) := by unfold TypAt; kernel_rfl
theorem typ_natList_5_0 : TypAt .natList (((valsM .natList 5).drop 0).take 20) := by unfold TypAt; kernel_rfl
theorem typ_natList_5_1 : TypAt .natList (((valsM .natList 5).drop 20).take 20) := by unfold TypAt; kernel_rfl
theorem typ_natList_5_2 : TypAt .natList (((valsM .natList 5).drop 40).take 20) := by unfold TypAt; kernel_rfl
theorem tsame_nat : FS G 60 (.call 40 [PTy.nat.enc, PTy.nat.enc] []) = some (.ret (.bool true) []) := by kernel_rfl
theorem tsame_list : FS G 60 (.call 40 [PTy.list.enc, PTy.list.enc] []) = some (.ret (.bool true) []) := by kernel_rfl
theorem tsame_unit : FS G 60 (.call 40 [PTy.unit.enc, PTy.unit.enc] []) = some (.ret (.bool true) []) := by kernel_rfl
theorem tsame_natNat : FS G 60 (.call 40 [PTy.natNat.enc, PTy.natNat.enc] []) = some (.ret (.bool true) []) := by kernel_rfl
theorem tsame_natList : FS G 60 (.call 40 [PTy.natList.enc, PTy.natList.enc] []) = some (.ret (.bool true) []) := by kernel_rfl
end Go.AI
