/- The machine: its model, and contracts of its parts. -/
import Derived.Test.YtdpamhejneicdaaGreatDoorZH9
namespace Go.AI
set_option linter.unusedVariables false
set_option linter.unusedSimpArgs false
open Go
set_option maxRecDepth 100000
set_option maxHeartbeats 4000000

mutual
inductive V where
  | num (n : Nat)
  | list (l : List Nat)
  | pair (a b : V)
  | unit
  | clo (b : Tm) (e : VE)
inductive VE where
  | nil
  | cons (v : V) (e : VE)
end

def lcell : List Nat → AV
  | [] => .nilp
  | x :: l => .iptr [.int .i64 (x : Int), lcell l]
def V.ty : V → Nat | .num _ => 3 | .list _ => 287 | .pair _ _ => 290 | .unit => 294 | .clo _ _ => 297
mutual
def V.pl : V → AV
  | .num n => .int .i64 (n : Int)
  | .list l => lcell l
  | .pair a b => .iptr [.iface a.ty a.pl, .iface b.ty b.pl]
  | .unit => .agg []
  | .clo b e => .iptr [.int .i64 b.k, .int .i64 b.i, .int .i64 b.t, .slice 2 b.u, .slice 5 b.a, e.enc]
def VE.enc : VE → AV
  | .nil => .nilp
  | .cons v e => .iptr [.iface v.ty v.pl, e.enc]
end
def V.enc (v : V) : AV := .iface v.ty v.pl
theorem lcell_flat : ∀ l : List Nat, (lcell l).flat = true
  | [] => rfl
  | x :: l => by simp [lcell, AV.flat, AV.flatL, lcell_flat l]
theorem Tm.flata (x : Tm) : AV.flatL x.a = true := by have := x.flat; simp only [Tm.enc, node, AV.flat, AV.flatL, Bool.true_and, Bool.and_true, Bool.and_eq_true] at this; exact this.2
mutual
theorem V.flatp : ∀ v : V, v.pl.flat = true
  | .num n => rfl
  | .list l => by simp [V.pl, lcell_flat]
  | .pair a b => by simp [V.pl, AV.flat, AV.flatL, V.flatp a, V.flatp b]
  | .unit => rfl
  | .clo b e => by simp [V.pl, AV.flat, AV.flatL, VE.flat e, b.flatu, b.flata]
theorem VE.flat : ∀ e : VE, e.enc.flat = true
  | .nil => rfl
  | .cons v e => by simp [VE.enc, AV.flat, AV.flatL, V.flatp v, VE.flat e]
end
theorem V.flat (v : V) : v.enc.flat = true := by simp [V.enc, AV.flat, V.flatp]

def VE.at : VE → Nat → Option V
  | .nil, _ => none
  | .cons v _, 0 => some v
  | .cons _ e, i + 1 => e.at i

abbrev R := Option (Option (V × Nat))
def bnd (x : R) (k : V → Nat → R) : R := match x with | none => none | some none => some none | some (some (v, r)) => k v r
def apV (ev : Tm → VE → Nat → R) (f a : V) (r : Nat) : R := match f with | .clo b e => ev b (.cons a e) r | _ => none
/-- A recursion goes on: rounds left, the next number. -/
def loopRec (ev : Tm → VE → Nat → R) (f : V) : Nat → Nat → V → Nat → R
  | 0, _, acc, r => some (some (acc, r))
  | m + 1, k, acc, r => bnd (apV ev f (.num k) r) fun g r1 => bnd (apV ev g acc r1) fun v r2 => loopRec ev f m (k + 1) v r2
def foldStep (ev : Tm → VE → Nat → R) (f : V) (x : Nat) (t : List Nat) (acc : V) (r : Nat) : R :=
  bnd (apV ev f (.num x) r) fun g r1 => bnd (apV ev g (.list t) r1) fun h r2 => apV ev h acc r2
def loopFold (ev : Tm → VE → Nat → R) (f init : V) : List Nat → Nat → R
  | [], r => some (some (init, r))
  | x :: t, r => bnd (loopFold ev f init t r) fun acc r1 => foldStep ev f x t acc r1
def big : Nat := 2 ^ 61
/-- The machine: depth, term, environment, work that is left. None: it is stuck, or too deep. -/
def evalM : Nat → Tm → VE → Nat → R
  | 0, _, _, _ => none
  | _ + 1, _, _, 0 => some none
  | n + 1, .var i, e, r + 1 => if i < big then (e.at i).map fun v => some (v, r) else none
  | _ + 1, .lam _ b, e, r + 1 => some (some (.clo b e, r))
  | n + 1, .app f a, e, r + 1 => bnd (evalM n f e r) fun vf r1 => bnd (evalM n a e r1) fun va r2 => apV (evalM n) vf va r2
  | _ + 1, .zero, _, r + 1 => some (some (.num 0, r))
  | n + 1, .succ a, e, r + 1 => bnd (evalM n a e r) fun v r1 => match v with | .num k => if k < big then some (some (.num (k + 1), r1)) else none | _ => none
  | n + 1, .recN _ a b c, e, r + 1 => bnd (evalM n a e r) fun va r1 => bnd (evalM n b e r1) fun vb r2 => bnd (evalM n c e r2) fun vc r3 => match vc with | .num k => if k < big then loopRec (evalM n) vb k 0 va r3 else none | _ => none
  | _ + 1, .nil, _, r + 1 => some (some (.list [], r))
  | n + 1, .cons a b, e, r + 1 => bnd (evalM n a e r) fun va r1 => bnd (evalM n b e r1) fun vb r2 => match va, vb with | .num k, .list l => some (some (.list (k :: l), r2)) | _, _ => none
  | _ + 1, .fold _ _ _ _, _, r + 1 => none
  | n + 1, .pair a b, e, r + 1 => bnd (evalM n a e r) fun va r1 => bnd (evalM n b e r1) fun vb r2 => some (some (.pair va vb, r2))
  | n + 1, .fst a, e, r + 1 => bnd (evalM n a e r) fun v r1 => match v with | .pair x _ => some (some (x, r1)) | _ => none
  | n + 1, .snd a, e, r + 1 => bnd (evalM n a e r) fun v r1 => match v with | .pair _ y => some (some (y, r1)) | _ => none
  | _ + 1, .unit, _, r + 1 => some (some (.unit, r))

theorem bnd_some {x : R} {k : V → Nat → R} {res : Option (V × Nat)} (h : bnd x k = some res) : (x = some none ∧ res = none) ∨ ∃ v r, x = some (some (v, r)) ∧ k v r = some res := by
  unfold bnd at h
  split at h
  · cases h
  · exact .inl ⟨rfl, (Option.some.inj h).symm⟩
  · rename_i v r; exact .inr ⟨v, r, rfl, h⟩
theorem apV_some {ev : Tm → VE → Nat → R} {f a : V} {r : Nat} {res : Option (V × Nat)} (h : apV ev f a r = some res) : ∃ b e, f = .clo b e ∧ ev b (.cons a e) r = some res := by
  cases f <;> simp only [apV] at h <;> first | cases h | exact ⟨_, _, rfl, h⟩

/-- Work only grows. -/
def Less (ev : Tm → VE → Nat → R) : Prop := ∀ t e r v r', ev t e r = some (some (v, r')) → r' ≤ r
theorem Less.ap {ev : Tm → VE → Nat → R} (h : Less ev) {f a v : V} {r r' : Nat} (hx : apV ev f a r = some (some (v, r'))) : r' ≤ r := by
  obtain ⟨b, e, rfl, hx⟩ := apV_some hx
  exact h _ _ _ _ _ hx
theorem bnd_ok {x : R} {k : V → Nat → R} {v : V} {r : Nat} (h : bnd x k = some (some (v, r))) : ∃ v1 r1, x = some (some (v1, r1)) ∧ k v1 r1 = some (some (v, r)) := by
  rcases bnd_some h with ⟨_, h⟩ | h
  · cases h
  · exact h
theorem Less.rec_ {ev : Tm → VE → Nat → R} (h : Less ev) (f : V) : ∀ (m k : Nat) (acc : V) (r : Nat) (v : V) (r' : Nat), loopRec ev f m k acc r = some (some (v, r')) → r' ≤ r
  | 0, k, acc, r, v, r', hx => by simp only [loopRec, Option.some.injEq, Prod.mk.injEq] at hx; omega
  | m + 1, k, acc, r, v, r', hx => by
    simp only [loopRec] at hx
    obtain ⟨g, r1, h1, hx⟩ := bnd_ok hx
    obtain ⟨v2, r2, h2, hx⟩ := bnd_ok hx
    have := h.ap h1; have := h.ap h2; have := rec_ h f m _ _ _ _ _ hx
    omega
theorem Less.step {ev : Tm → VE → Nat → R} (h : Less ev) {f : V} {x : Nat} {t : List Nat} {acc v : V} {r r' : Nat} (hx : foldStep ev f x t acc r = some (some (v, r'))) : r' ≤ r := by
  obtain ⟨g, r1, h1, hx⟩ := bnd_ok hx
  obtain ⟨g2, r2, h2, hx⟩ := bnd_ok hx
  have := h.ap h1; have := h.ap h2; have := h.ap hx
  omega
theorem Less.fold {ev : Tm → VE → Nat → R} (h : Less ev) (f init : V) : ∀ (l : List Nat) (r : Nat) (v : V) (r' : Nat), loopFold ev f init l r = some (some (v, r')) → r' ≤ r
  | [], r, v, r', hx => by simp only [loopFold, Option.some.injEq, Prod.mk.injEq] at hx; omega
  | x :: t, r, v, r', hx => by
    simp only [loopFold] at hx
    obtain ⟨g, r1, h1, hx⟩ := bnd_ok hx
    have := fold h f init t _ _ _ h1; have := h.step hx
    omega
theorem evalM_le : ∀ n, Less (evalM n)
  | 0 => fun t e r v r' h => by simp [evalM] at h
  | n + 1 => fun t e r v r' h => by
    have ih := evalM_le n
    cases r with
    | zero => simp [evalM] at h
    | succ r =>
      cases t <;> simp only [evalM] at h
      case var i =>
        split at h
        · cases hv : e.at i with
          | none => rw [hv] at h; cases h
          | some x => rw [hv] at h; simp only [Option.map_some, Option.some.injEq, Prod.mk.injEq] at h; omega
        · cases h
      case lam => simp only [Option.some.injEq, Prod.mk.injEq] at h; omega
      case zero => simp only [Option.some.injEq, Prod.mk.injEq] at h; omega
      case nil => simp only [Option.some.injEq, Prod.mk.injEq] at h; omega
      case unit => simp only [Option.some.injEq, Prod.mk.injEq] at h; omega
      case fold => cases h
      case app f a =>
        obtain ⟨v1, r1, h1, h⟩ := bnd_ok h
        obtain ⟨v2, r2, h2, h⟩ := bnd_ok h
        have := ih _ _ _ _ _ h1; have := ih _ _ _ _ _ h2; have := ih.ap h; omega
      case succ a =>
        obtain ⟨v1, r1, h1, h⟩ := bnd_ok h
        have := ih _ _ _ _ _ h1
        split at h
        · split at h
          · simp only [Option.some.injEq, Prod.mk.injEq] at h; omega
          · cases h
        · cases h
      case recN s a b c =>
        obtain ⟨v1, r1, h1, h⟩ := bnd_ok h
        obtain ⟨v2, r2, h2, h⟩ := bnd_ok h
        obtain ⟨v3, r3, h3, h⟩ := bnd_ok h
        have := ih _ _ _ _ _ h1; have := ih _ _ _ _ _ h2; have := ih _ _ _ _ _ h3
        split at h
        · split at h
          · have := ih.rec_ _ _ _ _ _ _ _ h; omega
          · cases h
        · cases h
      case cons a b =>
        obtain ⟨v1, r1, h1, h⟩ := bnd_ok h
        obtain ⟨v2, r2, h2, h⟩ := bnd_ok h
        have := ih _ _ _ _ _ h1; have := ih _ _ _ _ _ h2
        split at h
        · simp only [Option.some.injEq, Prod.mk.injEq] at h; omega
        · cases h
      case pair a b =>
        obtain ⟨v1, r1, h1, h⟩ := bnd_ok h
        obtain ⟨v2, r2, h2, h⟩ := bnd_ok h
        have := ih _ _ _ _ _ h1; have := ih _ _ _ _ _ h2
        simp only [Option.some.injEq, Prod.mk.injEq] at h; omega
      case fst a =>
        obtain ⟨v1, r1, h1, h⟩ := bnd_ok h
        have := ih _ _ _ _ _ h1
        split at h
        · simp only [Option.some.injEq, Prod.mk.injEq] at h; omega
        · cases h
      case snd a =>
        obtain ⟨v1, r1, h1, h⟩ := bnd_ok h
        have := ih _ _ _ _ _ h1
        split at h
        · simp only [Option.some.injEq, Prod.mk.injEq] at h; omega
        · cases h

abbrev SM (lim r : Nat) (rest : Sig) : Sig := .box [.int .i64 ((lim - r : Nat) : Int), .int .i64 (lim : Int)] [] :: rest
def resV : Option (V × Nat) → AV | none => .tuple [.nilIface, .bool false] | some (v, _) => .tuple [v.enc, .bool true]
def resR : Option (V × Nat) → Nat | none => 0 | some (_, r) => r

theorem loop298 : ∀ (i : Nat) (e : VE) (v : V), e.at i = some v → i < 2 ^ 61 → ∃ e' : VE, Ev G (.loop (eeOf G 298 0 none) (.loop (lpOf G 298 0)) (mkEnv [(0, .val e.enc []), (1, .val (.int .i64 (i : Int)) [])]) []) (.code (.exit 0) (mkEnv [(0, .val (VE.cons v e').enc [])]) [])
  | 0, .cons v' e, v, h, _ => ⟨e, by
    simp only [VE.at, Option.some.injEq] at h
    subst h
    exact Ev.run (.nil) (by kernel_rfl)⟩
  | i + 1, .cons v' e, v, h, hi => by
    obtain ⟨e', ih⟩ := loop298 i e v h (by omega)
    refine ⟨e', ?_⟩
    have q : decide ((0 : Int) < ((i + 1 : Nat) : Int)) = true := decide_eq_true (by omega)
    have e1 : IntKind.wrap .i64 (((i + 1 : Nat) : Int) - 1) = (i : Int) := wrapEq (by omega) (by omega)
    cases e <;> exact Ev.run (.en (.v q) <| .en (.w (e1)) <| .en (.c ih) <| .nil) (by kernel_rfl)
  | 0, .nil, v, h, _ => by cases h
  | i + 1, .nil, v, h, _ => by cases h
theorem c298 {i : Nat} {e : VE} {v : V} (h : e.at i = some v) (hi : i < 2 ^ 61) : EvF G 298 [e.enc, .int .i64 (i : Int)] v.enc := ⟨by simp [AV.flatL, AV.flat, VE.flat], by
  obtain ⟨e', k⟩ := loop298 i e v h hi
  exact Ev.run (.en (.c k) <| .nil) (by kernel_rfl)⟩

theorem hlenT (rest : Sig) : (decide (rest.length + 1 ≤ rest.length + 1) || false) = true := by simp
end Go.AI

