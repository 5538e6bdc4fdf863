/- decide.Truth -/
import Derived.Test.YtdpamhejneicdaaGreatDoorZH15
namespace Go.AI
set_option linter.unusedVariables false
set_option linter.unusedSimpArgs false
open Go
set_option maxRecDepth 100000
set_option maxHeartbeats 4000000

def TR.out (w : Nat) : TR → AV
  | .ok b r => .tuple [.bool b, .int .i64 ((w - r : Nat) : Int), .int .i64 0]
  | .err e _ => .tuple [.bool false, .int .i64 0, .int .i64 e]
/-- decide.Truth -/
theorem f19 {n : Nat} {d : DFm} {w : Nat} {res : TR} (hx : truthM n d w = some res) (hg : GoodD d) (hw : w ≤ 65536) : EvF G 19 [d.fm.enc, .int .i64 (w : Int)] (res.out w) := ⟨flatT1 (Fm.flat _) w, by
  have h1 := f107 hg.fit hg.ty.hasF
  have h2 := f134 hg.fit (hg.ty.wf (by have := hg.size; simp; omega))
  have h3 := f68 hg
  have h4 := meth68 d
  have k := c_truth n d w w res hx hg (Nat.le_refl _) hw
  rw [show SE w w 0 = [.box [.int .i64 0, .int .i64 (w : Int), .int .i64 0] []] by simp [SE]] at k
  have q1 : decide ((0 : Int) ≤ (w : Int)) = true := decide_eq_true (by omega)
  have q2 : decide ((w : Int) ≤ 65536) = true := decide_eq_true (by omega)
  have fl : AV.flatL [.slice 2 [], d.fm.enc, .bool true] = true := by simp [AV.flatL, AV.flat, Fm.flat]
  cases res with
  | ok b r => exact Ev.run (.sub (.en (.sk 8) <| .en (.v q2) <| .nil) <| .subF fl (.en (.f (h1)) <| .en (.f (h2)) <| .nil) <| .en (.f (h3)) <| .en (.m h4) <| .en (.r (k)) <| .nil) (by kernel_rfl)
  | err e r =>
    have he := ne_of (truthM_E n _ _ _ hx)
    exact Ev.run (.sub (.en (.sk 8) <| .en (.v q2) <| .nil) <| .subF fl (.en (.f (h1)) <| .en (.f (h2)) <| .nil) <| .en (.f (h3)) <| .en (.m h4) <| .en (.r (k)) <| .en (.v he) <| .nil) (by kernel_rfl)⟩
end Go.AI

