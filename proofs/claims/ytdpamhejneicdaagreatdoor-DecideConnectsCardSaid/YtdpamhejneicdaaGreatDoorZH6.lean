/- Contracts: numerals; closed terms of numbers. -/
import Derived.Test.YtdpamhejneicdaaGreatDoorZH5
namespace Go.AI
set_option linter.unusedVariables false
set_option linter.unusedSimpArgs false
open Go
set_option maxRecDepth 100000
set_option maxHeartbeats 4000000

def Tm.succs : Nat → Tm → Tm
  | 0, x => x
  | n + 1, x => succs n (.succ x)
/-- The term of a number. -/
def Tm.num (n : Nat) : Tm := Tm.succs n .zero
abbrev zcells : List AV := [.int .i64 0, .int .i64 0, .int .i64 0, .slice 2 [], .slice 5 []]

theorem loop209 : ∀ (n : Nat) (x : Tm), n < 2 ^ 59 → Ev G (.loop (eeOf G 209 0 none) (.loop (lpOf G 209 0)) (mkEnv [(2, .loc zcells [3, 4]), (3, .loc x.cells [3]), (4, .val (.int .i64 (n : Int)) [])]) []) (.code (.exit 0) (mkEnv [(2, .loc zcells [3, 4]), (3, .loc (Tm.succs n x).cells [3])]) [])
  | 0, x, _ => by exact Ev.run (.nil) (by kernel_rfl)
  | n + 1, x, h => by
    have ih := loop209 n (.succ x) (by omega)
    have q : decide ((0 : Int) < ((n + 1 : Nat) : Int)) = true := decide_eq_true (by omega)
    have e : IntKind.wrap .i64 (((n + 1 : Nat) : Int) - 1) = (n : Int) := wrapEq (by omega) (by omega)
    exact Ev.run (.en (.v q) <| .en (.w (e)) <| .en (.c ih) <| .nil) (by kernel_rfl)
theorem f209 : ∀ (n : Nat), n < 2 ^ 59 → EvF G 209 [.int .i64 (n : Int)] (Tm.num n).enc
  | 0, _ => ⟨rfl, by exact Ev.run (.sub (.nil) <| .nil) (by kernel_rfl)⟩
  | n + 1, h => ⟨rfl, by
    have ih := loop209 n (.succ .zero) (by omega)
    have q : decide ((0 : Int) < ((n + 1 : Nat) : Int)) = true := decide_eq_true (by omega)
    have e : IntKind.wrap .i64 (((n + 1 : Nat) : Int) - 1) = (n : Int) := wrapEq (by omega) (by omega)
    exact Ev.run (.sub (.en (.v q) <| .en (.w (e)) <| .en (.c ih) <| .nil) <| .nil) (by kernel_rfl)⟩
theorem loop79 : ∀ (n : Nat) (x : Tm), n < 2 ^ 59 → Ev G (.loop (eeOf G 79 0 none) (.loop (lpOf G 79 0)) (mkEnv [(0, .val (.int .i64 (n : Int)) []), (2, .loc zcells [3, 4]), (3, .loc x.cells [3])]) []) (.code (.exit 0) (mkEnv [(2, .loc zcells [3, 4]), (3, .loc (Tm.succs n x).cells [3])]) [])
  | 0, x, _ => by exact Ev.run (.nil) (by kernel_rfl)
  | n + 1, x, h => by
    have ih := loop79 n (.succ x) (by omega)
    have q : decide ((0 : Int) < ((n + 1 : Nat) : Int)) = true := decide_eq_true (by omega)
    have e : IntKind.wrap .i64 (((n + 1 : Nat) : Int) - 1) = (n : Int) := wrapEq (by omega) (by omega)
    exact Ev.run (.en (.v q) <| .en (.w (e)) <| .en (.c ih) <| .nil) (by kernel_rfl)
theorem f79 : ∀ (n : Nat), n < 2 ^ 59 → EvF G 79 [.int .i64 (n : Int)] (Tm.num n).enc
  | 0, _ => ⟨rfl, by exact Ev.run (.sub (.sub (.nil) <| .nil) <| .sub (.nil) <| .nil) (by kernel_rfl)⟩
  | n + 1, h => ⟨rfl, by
    have ih := loop79 n (.succ .zero) (by omega)
    have q : decide ((0 : Int) < ((n + 1 : Nat) : Int)) = true := decide_eq_true (by omega)
    have e : IntKind.wrap .i64 (((n + 1 : Nat) : Int) - 1) = (n : Int) := wrapEq (by omega) (by omega)
    exact Ev.run (.sub (.sub (.nil) <| .nil) <| .sub (.en (.v q) <| .en (.w (e)) <| .en (.c ih) <| .nil) <| .nil) (by kernel_rfl)⟩
theorem f138 {n : Nat} (h : n < 4096) : EvF G 138 [.int .i64 (n : Int)] (.tuple [(Tm.num n).enc, .int .i64 0]) := ⟨rfl, by
  have h1 := f209 n (by omega)
  have q1 : decide ((n : Int) < 0) = false := decide_eq_false (by omega)
  have q2 : decide ((4096 : Int) ≤ (n : Int)) = false := decide_eq_false (by omega)
  exact Ev.run (.en (.sk 8) <| .en (.v q2) <| .en (.f (h1)) <| .nil) (by kernel_rfl)⟩
theorem f138x {n : Nat} (h : ¬ n < 4096) : EvF G 138 [.int .i64 (n : Int)] (.tuple [noTm, .int .i64 4]) := ⟨rfl, by
  have q1 : decide ((n : Int) < 0) = false := decide_eq_false (by omega)
  have q2 : decide ((4096 : Int) ≤ (n : Int)) = true := decide_eq_true (by omega)
  exact Ev.run (.en (.sk 8) <| .en (.v q2) <| .nil) (by kernel_rfl)⟩
theorem f30 {n : Nat} (h : n < 4096) : EvF G 30 [.int .i64 (n : Int)] (.tuple [(Tm.num n).enc, .int .i64 0]) := ⟨rfl, by
  have h1 := f79 n (by omega)
  have q1 : decide ((n : Int) < 0) = false := decide_eq_false (by omega)
  have q2 : decide ((4096 : Int) ≤ (n : Int)) = false := decide_eq_false (by omega)
  exact Ev.run (.en (.sk 8) <| .en (.v q2) <| .en (.f (h1)) <| .nil) (by kernel_rfl)⟩
theorem f28 {n : Nat} (h : n < 4096) : EvF G 28 [.int .i64 (n : Int)] (Tm.num n).enc := ⟨rfl, by
  have h1 := f30 h
  exact Ev.run (.en (.f (h1)) <| .nil) (by kernel_rfl)⟩

/-! ### Plus, Pred, Sub -/

def predM : Tm := .lam .nat (.recN .nat .zero (.lam .nat (.lam .nat (.var 1))) (.var 0))
def plusM : Tm := .lam .nat (.lam .nat (.recN .nat (.var 1) (.lam .nat (.lam .nat (.succ (.var 0)))) (.var 0)))
def subM : Tm := .lam .nat (.lam .nat (.recN .nat (.var 1) (.lam .nat (.lam .nat (.app predM (.var 0)))) (.var 0)))
theorem f203 : EvF G 203 [] predM.enc := ⟨rfl, .comp 60 (by kernel_rfl)⟩
theorem f130 : EvF G 130 [] plusM.enc := ⟨rfl, .comp 60 (by kernel_rfl)⟩
theorem f131 : EvF G 131 [] subM.enc := ⟨rfl, .comp 60 (by kernel_rfl)⟩
theorem f343 : EvF G 343 [] predM.enc := ⟨rfl, .comp 60 (by kernel_rfl)⟩
theorem f315 : EvF G 315 [] subM.enc := ⟨rfl, .comp 60 (by kernel_rfl)⟩
end Go.AI

