/- The abstract machine: names for a function's code and its parts. -/
import Derived.Test.YtdpamhejneicdaaGreatDoorZAIU
namespace Go.AI
set_option linter.unusedVariables false
set_option linter.unusedSimpArgs false
open Go

/-- The loops of a code, in order. -/
def loopsIn : Code → List Code
  | .seq a b => loopsIn a ++ loopsIn b
  | .cond _ a b => loopsIn a ++ loopsIn b
  | .block _ b => loopsIn b
  | .loop b => b :: loopsIn b
  | .rangeFunc _ _ a b => loopsIn a ++ loopsIn b
  | _ => []

/-- The ranges over functions of a code, in order. -/
def rangesIn : Code → List (Array Tmp × Code × Code)
  | .seq a b => rangesIn a ++ rangesIn b
  | .cond _ a b => rangesIn a ++ rangesIn b
  | .block _ b => rangesIn b
  | .loop b => rangesIn b
  | .rangeFunc _ ps a b => (ps, a, b) :: (rangesIn a ++ rangesIn b)
  | _ => []

def bodyOf (G : Prg) (g : FuncId) : Code := (((G.P.funcs[g]?).bind (·.body))).getD .skip
def lpOf (G : Prg) (g n : Nat) : Code := ((loopsIn (bodyOf G g))[n]?).getD .skip
def annOf (G : Prg) (g : FuncId) : Ann := (G.ann g).getD { vars := [], loc := [], own := [], into := [], imp := [], quiet := [], keep := false, ntmps := 0 }
def eeOf (G : Prg) (g base : Nat) (round : Option Nat) : EE := { an := annOf G g, fn := g, base, round }
def rgOf (G : Prg) (g n : Nat) (env : Env) (state : LoopState) (pending : Option Code) : ALoop :=
  let x := ((rangesIn (bodyOf G g))[n]?).getD (#[], .skip, .skip)
  { fn := g, env, params := x.1, assign := x.2.1, body := x.2.2, state, pending }

end Go.AI
