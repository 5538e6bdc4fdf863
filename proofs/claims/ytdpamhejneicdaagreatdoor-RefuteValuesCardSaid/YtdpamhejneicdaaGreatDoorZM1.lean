/- Plain values and the types of RefuteValues. -/
import Derived.Test.YtdpamhejneicdaaGreatDoorZTab
namespace Go.AI
set_option linter.unusedVariables false
set_option linter.unusedSimpArgs false
open Go

inductive Val where
  | num (n : Nat)
  | list (l : List Nat)
  | pair (a b : Val)
  | unit
  deriving DecidableEq

def intI (x : Int) : AV := .int .i64 x
def intN (x : Nat) : AV := .int .i64 (x : Int)
def Val.k : Val → Int | .num _ => 1 | .list _ => 2 | .pair _ _ => 3 | .unit => 4
def Val.n : Val → Int | .num n => (n : Int) | _ => 0
def Val.l : Val → List AV | .list l => l.map intN | _ => []
def Val.a : Val → List AV
  | .pair a b => [.agg [.int .i64 a.k, .int .i64 a.n, .slice 1 a.l, .slice 4 a.a], .agg [.int .i64 b.k, .int .i64 b.n, .slice 1 b.l, .slice 4 b.a]]
  | _ => []
def Val.enc (v : Val) : AV := .agg [.int .i64 v.k, .int .i64 v.n, .slice 1 v.l, .slice 4 v.a]

/-- The types without functions that are made. -/
inductive PTy where
  | nat | list | unit | natList | natNat
  deriving DecidableEq
def PTy.k : PTy → Int | .nat => 1 | .list => 2 | .unit => 5 | _ => 3
def PTy.a : PTy → List AV
  | .natList => [.agg [.int .i64 1, .slice 2 []], .agg [.int .i64 2, .slice 2 []]]
  | .natNat => [.agg [.int .i64 1, .slice 2 []], .agg [.int .i64 1, .slice 2 []]]
  | _ => []
def PTy.enc (s : PTy) : AV := .agg [.int .i64 s.k, .slice 2 s.a]

def numsM (n : Nat) : List Val := (List.range n).map .num
def listsM (n : Nat) : List Val := .list [] :: ((List.range n).map fun a => .list [a]) ++ (List.range n).flatMap fun a => (List.range n).map fun b => .list [a, b]
def allM : PTy → Nat → List Val
  | .nat, n => numsM n
  | .list, n => listsM n
  | .unit, _ => [.unit]
  | .natList, n => (numsM n).flatMap fun a => (listsM n).map fun b => .pair a b
  | .natNat, n => (numsM n).flatMap fun a => (numsM n).map fun b => .pair a b
def valsM (s : PTy) (n : Nat) : List Val := (allM s n).take 60

def ValuesAt (s : PTy) (n : Nat) : Prop := FS G 100 (.call 38 [s.enc, .int .i64 (n : Int), .int .i64 60] []) = some (.ret (.tuple [.slice 4 ((valsM s n).map Val.enc), .int .i64 0]) [])
end Go.AI
