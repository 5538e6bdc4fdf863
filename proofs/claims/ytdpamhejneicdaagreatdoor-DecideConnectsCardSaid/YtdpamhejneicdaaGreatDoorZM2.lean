/- Types, terms and formulas as the program holds them. -/
import Derived.Test.YtdpamhejneicdaaGreatDoorZTab
import Derived.Test.YtdpamhejneicdaaGreatDoorZG0
namespace Go.AI
set_option linter.unusedVariables false
set_option linter.unusedSimpArgs false
open Go

/-! ### Types -/

inductive Ty where
  | nat | list | unit
  | pair (a b : Ty)
  | fn (a b : Ty)
  deriving DecidableEq

def Ty.k : Ty → Int | .nat => 1 | .list => 2 | .pair _ _ => 3 | .fn _ _ => 4 | .unit => 5
def Ty.args : Ty → List Ty | .pair a b => [a, b] | .fn a b => [a, b] | _ => []
def Ty.a : Ty → List AV
  | .pair a b => [.agg [.int .i64 a.k, .slice 2 a.a], .agg [.int .i64 b.k, .slice 2 b.a]]
  | .fn a b => [.agg [.int .i64 a.k, .slice 2 a.a], .agg [.int .i64 b.k, .slice 2 b.a]]
  | _ => []
def Ty.enc (t : Ty) : AV := .agg [.int .i64 t.k, .slice 2 t.a]
def Ty.size : Ty → Nat | .pair a b => a.size + b.size + 1 | .fn a b => a.size + b.size + 1 | _ => 1

theorem Ty.a_eq (t : Ty) : t.a = t.args.map Ty.enc := by cases t <;> rfl
theorem Ty.a_len (t : Ty) : t.a.length = t.args.length := by rw [t.a_eq, List.length_map]
theorem Ty.args_two (t : Ty) : t.args.length ≤ 2 := by cases t <;> simp [Ty.args]

theorem Ty.ind {P : Ty → Prop} (h : ∀ t, (∀ x ∈ t.args, P x) → P t) : ∀ t, P t
  | .nat => h _ (by simp [Ty.args])
  | .list => h _ (by simp [Ty.args])
  | .unit => h _ (by simp [Ty.args])
  | .pair a b => h _ (by simp only [Ty.args, List.mem_cons, List.not_mem_nil, or_false]; intro x hx; rcases hx with rfl | rfl; exact Ty.ind h _; exact Ty.ind h _)
  | .fn a b => h _ (by simp only [Ty.args, List.mem_cons, List.not_mem_nil, or_false]; intro x hx; rcases hx with rfl | rfl; exact Ty.ind h _; exact Ty.ind h _)

theorem flatL_map {α : Type} {f : α → AV} : ∀ (l : List α), (∀ x ∈ l, (f x).flat = true) → AV.flatL (l.map f) = true
  | [], _ => rfl
  | x :: l, h => by simp only [List.map_cons, AV.flatL, h x (by simp), flatL_map l (fun y hy => h y (by simp [hy])), Bool.and_self]

theorem Ty.flat : ∀ (t : Ty), t.enc.flat = true := Ty.ind fun t ih => by
  simp [Ty.enc, AV.flat, AV.flatL, t.a_eq, flatL_map _ ih]
theorem Ty.flata (t : Ty) : AV.flatL t.a = true := by rw [t.a_eq]; exact flatL_map _ fun x _ => x.flat

theorem get_map {α : Type} {f : α → AV} {l : List α} {i : Nat} (h : i < (l.map f).length) : ∃ x, l[i]? = some x ∧ (l.map f)[i]? = some (f x) ∧ x ∈ l := by
  rw [List.length_map] at h
  exact ⟨l[i], List.getElem?_eq_getElem h, by rw [List.getElem?_map, List.getElem?_eq_getElem h]; rfl, List.getElem_mem h⟩

theorem take_next {α β : Type} {f : α → β} {l : List α} {i : Nat} {x : α} (h : l[i]? = some x) : (l.take (i + 1)).map f = (l.take i).map f ++ [f x] := by
  rw [List.take_add_one, h]; simp

/-! ### Terms -/

inductive Tm where
  | var (i : Nat)
  | lam (s : Ty) (b : Tm)
  | app (f a : Tm)
  | zero
  | succ (a : Tm)
  | recN (s : Ty) (a b c : Tm)
  | nil
  | cons (a b : Tm)
  | fold (s : Ty) (a b c : Tm)
  | pair (a b : Tm)
  | fst (a : Tm)
  | snd (a : Tm)
  | unit
  deriving DecidableEq

abbrev node (k i t : Int) (u a : List AV) : AV := .agg [.int .i64 k, .int .i64 i, .int .i64 t, .slice 2 u, .slice 5 a]
def Tm.k : Tm → Int | .var _ => 1 | .lam _ _ => 2 | .app _ _ => 3 | .zero => 4 | .succ _ => 5 | .recN _ _ _ _ => 6 | .nil => 7 | .cons _ _ => 8 | .fold _ _ _ _ => 9 | .pair _ _ => 10 | .fst _ => 11 | .snd _ => 12 | .unit => 13
def Tm.i : Tm → Int | .var i => (i : Int) | _ => 0
def Tm.ty : Tm → Option Ty | .lam s _ => some s | .recN s _ _ _ => some s | .fold s _ _ _ => some s | _ => none
def Tm.t : Tm → Int | .lam s _ => s.k | .recN s _ _ _ => s.k | .fold s _ _ _ => s.k | _ => 0
def Tm.u : Tm → List AV | .lam s _ => s.a | .recN s _ _ _ => s.a | .fold s _ _ _ => s.a | _ => []
def Tm.args : Tm → List Tm
  | .lam _ b => [b] | .app f a => [f, a] | .succ a => [a] | .recN _ a b c => [a, b, c] | .cons a b => [a, b] | .fold _ a b c => [a, b, c]
  | .pair a b => [a, b] | .fst a => [a] | .snd a => [a] | _ => []
def Tm.a : Tm → List AV
  | .lam _ b => [node b.k b.i b.t b.u b.a]
  | .app f a => [node f.k f.i f.t f.u f.a, node a.k a.i a.t a.u a.a]
  | .succ a => [node a.k a.i a.t a.u a.a]
  | .recN _ a b c => [node a.k a.i a.t a.u a.a, node b.k b.i b.t b.u b.a, node c.k c.i c.t c.u c.a]
  | .cons a b => [node a.k a.i a.t a.u a.a, node b.k b.i b.t b.u b.a]
  | .fold _ a b c => [node a.k a.i a.t a.u a.a, node b.k b.i b.t b.u b.a, node c.k c.i c.t c.u c.a]
  | .pair a b => [node a.k a.i a.t a.u a.a, node b.k b.i b.t b.u b.a]
  | .fst a => [node a.k a.i a.t a.u a.a]
  | .snd a => [node a.k a.i a.t a.u a.a]
  | _ => []
def Tm.enc (x : Tm) : AV := node x.k x.i x.t x.u x.a

theorem Tm.a_eq (x : Tm) : x.a = x.args.map Tm.enc := by cases x <;> rfl
theorem Tm.a_len (x : Tm) : x.a.length = x.args.length := by rw [x.a_eq, List.length_map]
theorem Tm.args_three (x : Tm) : x.args.length ≤ 3 := by cases x <;> simp [Tm.args]
theorem Tm.get {x y : Tm} {i : Nat} (h : x.args[i]? = some y) : x.a[i]? = some (node y.k y.i y.t y.u y.a) := by rw [x.a_eq, List.getElem?_map, h]; rfl

def Tm.size : Tm → Nat
  | .lam _ b => b.size + 1 | .app f a => f.size + a.size + 1 | .succ a => a.size + 1 | .recN _ a b c => a.size + b.size + c.size + 1 | .cons a b => a.size + b.size + 1
  | .fold _ a b c => a.size + b.size + c.size + 1 | .pair a b => a.size + b.size + 1 | .fst a => a.size + 1 | .snd a => a.size + 1 | _ => 1

theorem Tm.ind {P : Tm → Prop} (h : ∀ x, (∀ y ∈ x.args, P y) → P x) (x : Tm) : P x := by
  have key : ∀ n (x : Tm), x.size ≤ n → P x := by
    intro n
    induction n with
    | zero => intro x hx; cases x <;> simp [Tm.size] at hx
    | succ n ih =>
      intro x hx
      refine h x fun y hy => ih y ?_
      cases x <;> simp [Tm.args, Tm.size] at hx hy
      all_goals first | exact hy.elim | (subst hy; omega) | (rcases hy with rfl | rfl <;> omega) | (rcases hy with rfl | rfl | rfl <;> omega)
  exact key x.size x (Nat.le_refl _)

def tsizes (l : List Tm) : Nat := (l.map Tm.size).sum
theorem tsizes_next {l : List Tm} {i : Nat} {x : Tm} (h : l[i]? = some x) : tsizes (l.take (i + 1)) = tsizes (l.take i) + x.size := by
  unfold tsizes; rw [List.take_add_one, h]; simp
theorem tsizes_le (l : List Tm) (i : Nat) : tsizes (l.take i) ≤ tsizes l := by
  unfold tsizes
  have : (l.map Tm.size).sum = ((l.take i).map Tm.size).sum + ((l.drop i).map Tm.size).sum := by rw [← List.sum_append, ← List.map_append, List.take_append_drop]
  omega
theorem Tm.size_eq (t : Tm) : t.size = tsizes t.args + 1 := by cases t <;> simp [Tm.size, tsizes, Tm.args] <;> omega
theorem Tm.size_arg {t x : Tm} {i : Nat} (h : t.args[i]? = some x) : x.size < t.size := by
  have h1 := tsizes_next h
  have h2 := tsizes_le t.args (i + 1)
  have h3 := t.size_eq
  omega
theorem Tm.size_len (t : Tm) : (t.size : Int) = ((tsizes (t.args.take t.a.length) + 1 : Nat) : Int) := by rw [t.a_len, List.take_length, ← t.size_eq]

theorem Tm.flatu (x : Tm) : AV.flatL x.u = true := by cases x <;> first | rfl | exact Ty.flata _
theorem Tm.flat (x : Tm) : x.enc.flat = true := Tm.ind (P := fun x => x.enc.flat = true) (fun x ih => by
  simp [Tm.enc, node, AV.flat, AV.flatL, x.flatu, x.a_eq, flatL_map _ ih]) x

end Go.AI

