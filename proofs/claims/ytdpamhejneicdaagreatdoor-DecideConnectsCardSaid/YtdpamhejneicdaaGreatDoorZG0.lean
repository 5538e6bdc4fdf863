/- One path of a function, what is asked on it told by its proofs. -/
import Derived.Test.YtdpamhejneicdaaGreatDoorZGF
namespace Go.AI
set_option linter.unusedVariables false
set_option linter.unusedSimpArgs false
open Go

inductive AllQ : List Prop → Prop where
  | nil : AllQ []
  | cons {p : Prop} {ps : List Prop} : p → AllQ ps → AllQ (p :: ps)

theorem AllQ.toP : ∀ {ps : List Prop}, AllQ ps → AllP ps
  | _, .nil => trivial
  | _, .cons h hs => ⟨h, hs.toP⟩

theorem Ev.via {G : Prg} (s : List Ent) {t : Task} {r : Res} {obs : List Prop} (ho : AllQ obs) (h : play G (treeT G t) s = some (r, obs)) : Ev G t r := Ev.of s h ho.toP

theorem wrapI {x : Int} (h1 : -9223372036854775808 ≤ x) (h2 : x ≤ 9223372036854775807) : IntKind.wrap .i64 x = x := by
  simp only [IntKind.wrap]
  first
    | omega
    | (simp [IntKind.signed, IntKind.bits]; omega)
    | (simp only [IntKind.bits, Int.bmod]; omega)

end Go.AI

