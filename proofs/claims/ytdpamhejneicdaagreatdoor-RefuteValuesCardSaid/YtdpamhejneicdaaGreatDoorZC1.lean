/- Contracts for RefuteValues: values and types compared, choices made. -/
import Derived.Test.YtdpamhejneicdaaGreatDoorZM1
import Derived.Test.YtdpamhejneicdaaGreatDoorZPA
namespace Go.AI
set_option linter.unusedVariables false
set_option linter.unusedSimpArgs false
open Go

theorem wrap64 {x : Int} (h1 : -9223372036854775808 ≤ x) (h2 : x ≤ 9223372036854775807) : IntKind.wrap .i64 x = x := by
  simp only [IntKind.wrap]
  first
    | omega
    | (simp [IntKind.signed, IntKind.bits]; omega)
    | (simp only [IntKind.bits, Int.bmod]; omega)

theorem flatL_ints (l : List Int) : AV.flatL (l.map intI) = true := by
  induction l with
  | nil => rfl
  | cons x l ih => simp [AV.flatL, intI, AV.flat, ih]

theorem flatL_nats (l : List Nat) : AV.flatL (l.map intN) = true := by
  induction l with
  | nil => rfl
  | cons x l ih => simp [AV.flatL, intN, AV.flat, ih]

theorem Val.flatl (v : Val) : AV.flatL v.l = true := by
  cases v <;> first | rfl | exact flatL_nats _

theorem Val.flata : ∀ (v : Val), AV.flatL v.a = true
  | .num _ => rfl
  | .list _ => rfl
  | .unit => rfl
  | .pair a b => by
    have ha := a.flata
    have hb := b.flata
    simp [Val.a, AV.flatL, AV.flat, Val.flatl, ha, hb]

theorem Val.flat (v : Val) : v.enc.flat = true := by simp [Val.enc, AV.flat, AV.flatL, Val.flatl, Val.flata]

theorem flatL_encs (l : List Val) : AV.flatL (l.map Val.enc) = true := by
  induction l with
  | nil => rfl
  | cons x l ih => simp [AV.flatL, Val.flat, ih]

theorem PTy.flat (s : PTy) : s.enc.flat = true := by cases s <;> rfl

/-- Lists of at most two numbers. -/
def Val.small : Val → Bool
  | .list l => decide (l.length ≤ 2)
  | .pair a b => a.small && b.small
  | _ => true

theorem ints_spec {l m : List Nat} (hl : l.length ≤ 2) (hm : m.length ≤ 2) : Ev G (.call 101 [.slice 1 (l.map intN), .slice 1 (m.map intN)] []) (.ret (.bool (decide (l = m))) []) := by
  by_cases h : l.length = m.length
  · match l, m, h, hl with
    | [], [], _, _ => simpa using p101u0
    | [x], [y], _, _ =>
      by_cases hxy : x = y
      · subst hxy
        simpa [intN] using p101u1_1 (x := (x : Int)) (y := x) (by simp)
      · have := p101u1_0 (x := (x : Int)) (y := y) (by simp; omega)
        simpa [intN, hxy] using this
    | [x, x2], [y, y2], _, _ =>
      by_cases hxy : x = y
      · subst hxy
        by_cases h2 : x2 = y2
        · subst h2
          simpa [intN] using p101u2_2 (x := (x : Int)) (y := x) (x2 := x2) (y2 := x2) (by simp) (by simp)
        · have := p101u2_1 (x := (x : Int)) (y := x) (x2 := x2) (y2 := y2) (by simp) (by simp; omega)
          simpa [intN, h2] using this
      · have := p101u2_0 (x := (x : Int)) (y := y) (x2 := x2) (y2 := y2) (by simp; omega)
        simpa [intN, hxy] using this
    | _ :: _ :: _ :: _, _, _, hl => simp at hl
  · have hne : l ≠ m := fun e => h (by rw [e])
    have := p101_0 (lA := l.map intN) (lB := m.map intN) (by simp; omega)
    simpa [hne] using this

theorem flatL_two {a b : AV} (ha : a.flat = true) (hb : b.flat = true) : AV.flatL [a, b] = true := by simp [AV.flatL, ha, hb]

theorem same_spec : ∀ (v w : Val), v.small = true → w.small = true → Ev G (.call 41 [v.enc, w.enc] []) (.ret (.bool (decide (v = w))) []) := by
  intro v
  induction v with
  | num n =>
    intro w _ hw
    cases w with
    | num m =>
      by_cases h : n = m
      · subst h
        have := p41z_2 (kA := 1) (nA := n) (lA := []) (kB := 1) (nB := n) (lB := []) (b4 := true) rfl (by simp) (.flat p101u0 rfl _ _) rfl
        simpa [Val.enc, Val.k, Val.n, Val.l, Val.a] using this
      · have := p41z_1 (kA := 1) (nA := n) (lA := []) (kB := 1) (nB := m) (lB := []) rfl (by simp; omega)
        simpa [Val.enc, Val.k, Val.n, Val.l, Val.a, h] using this
    | _ => exact p41_0 rfl
  | unit =>
    intro w _ hw
    cases w with
    | unit =>
      have := p41z_2 (kA := 4) (nA := 0) (lA := []) (kB := 4) (nB := 0) (lB := []) (b4 := true) rfl (by simp) (.flat p101u0 rfl _ _) rfl
      simpa [Val.enc, Val.k, Val.n, Val.l, Val.a] using this
    | _ => exact p41_0 rfl
  | list l =>
    intro w hl hw
    cases w with
    | list m =>
      simp only [Val.small, decide_eq_true_eq] at hl hw
      have hi := ints_spec hl hw
      by_cases h : l = m
      · subst h
        have := p41z_2 (kA := 2) (nA := 0) (lA := l.map intN) (kB := 2) (nB := 0) (lB := l.map intN) (b4 := true) rfl (by simp) (.flat (by simpa using hi) (by simp [AV.flatL, AV.flat, flatL_nats]) _ _) rfl
        simpa [Val.enc, Val.k, Val.n, Val.l, Val.a] using this
      · have := p41_5 (kA := 2) (nA := 0) (lA := l.map intN) (aA := []) (kB := 2) (nB := 0) (lB := m.map intN) (aB := []) (b4 := false) rfl (by simp) (.flat (by simpa [h] using hi) (by simp [AV.flatL, AV.flat, flatL_nats]) _ _) rfl
        simpa [Val.enc, Val.k, Val.n, Val.l, Val.a, h] using this
    | _ => exact p41_0 rfl
  | pair a b iha ihb =>
    intro w hv hw
    cases w with
    | pair c d =>
      simp only [Val.small, Bool.and_eq_true] at hv hw
      have ia := EvC.flat (iha c hv.1 hw.1) (flatL_two a.flat c.flat) [] false
      have ib := EvC.flat (ihb d hv.2 hw.2) (flatL_two b.flat d.flat) [] false
      have i0 : EvC G 101 [.slice 1 [], .slice 1 []] [] false (.bool true) [] := .flat p101u0 rfl _ _
      by_cases h1 : a = c
      · by_cases h2 : b = d
        · have := p41p_0 i0 rfl ia (by simpa using h1) ib (by simpa using h2)
          simpa [Val.enc, Val.k, Val.n, Val.l, Val.a, h1, h2] using this
        · have := p41p_1 i0 rfl ia (by simpa using h1) ib (by simpa using h2)
          simpa [Val.enc, Val.k, Val.n, Val.l, Val.a, h1, h2] using this
      · have := p41p_2 (kB := b.k) (nB := b.n) (lB := b.l) (aB := b.a) (kD := d.k) (nD := d.n) (lD := d.l) (aD := d.a) i0 rfl ia (by simpa using h1)
        simpa [Val.enc, Val.k, Val.n, Val.l, Val.a, h1] using this
    | _ => exact p41_0 rfl

end Go.AI
