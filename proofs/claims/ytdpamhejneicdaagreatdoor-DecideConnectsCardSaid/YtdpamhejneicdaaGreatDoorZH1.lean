/- Contracts: types. -/
import Derived.Test.YtdpamhejneicdaaGreatDoorZM2
import Derived.Test.YtdpamhejneicdaaGreatDoorZGF
namespace Go.AI
set_option linter.unusedVariables false
set_option linter.unusedSimpArgs false
open Go
set_option maxRecDepth 100000

theorem flat1 {a : AV} (h : a.flat = true) : AV.flatL [a] = true := by simp [AV.flatL, h]
theorem flat2 {a b : AV} (ha : a.flat = true) (hb : b.flat = true) : AV.flatL [a, b] = true := by simp [AV.flatL, ha, hb]
theorem wrapEq {x : Int} {n : Nat} (h : x = (n : Int)) (hb : n < 2 ^ 62) : IntKind.wrap .i64 x = (n : Int) := by rw [wrapI (by omega) (by omega), h]

def noTy : AV := .agg [.int .i64 0, .slice 2 []]

theorem f106 : ∀ t : Ty, EvF G 106 [t.enc] t.enc
  | .nat => ⟨rfl, by exact Ev.run (.sub (.nil) <| .nil) (by kernel_rfl)⟩
  | .list => ⟨rfl, by exact Ev.run (.sub (.nil) <| .nil) (by kernel_rfl)⟩
  | .unit => ⟨rfl, by exact Ev.run (.sub (.nil) <| .nil) (by kernel_rfl)⟩
  | .pair a b => ⟨flat1 (Ty.flat _), by have ha := f106 a; have hb := f106 b; exact Ev.run (.sub (.en (.f (ha)) <| .sub (.en (.f (hb)) <| .sub (.nil) <| .nil) <| .nil) <| .nil) (by kernel_rfl)⟩
  | .fn a b => ⟨flat1 (Ty.flat _), by have ha := f106 a; have hb := f106 b; exact Ev.run (.sub (.en (.f (ha)) <| .sub (.en (.f (hb)) <| .sub (.nil) <| .nil) <| .nil) <| .nil) (by kernel_rfl)⟩
theorem f106n : EvF G 106 [noTy] noTy := ⟨rfl, by exact Ev.run (.sub (.nil) <| .nil) (by kernel_rfl)⟩
theorem f171 : ∀ t : Ty, EvF G 171 [t.enc] t.enc
  | .nat => ⟨rfl, by exact Ev.run (.sub (.nil) <| .nil) (by kernel_rfl)⟩
  | .list => ⟨rfl, by exact Ev.run (.sub (.nil) <| .nil) (by kernel_rfl)⟩
  | .unit => ⟨rfl, by exact Ev.run (.sub (.nil) <| .nil) (by kernel_rfl)⟩
  | .pair a b => ⟨flat1 (Ty.flat _), by have ha := f171 a; have hb := f171 b; exact Ev.run (.sub (.en (.f (ha)) <| .sub (.en (.f (hb)) <| .sub (.nil) <| .nil) <| .nil) <| .nil) (by kernel_rfl)⟩
  | .fn a b => ⟨flat1 (Ty.flat _), by have ha := f171 a; have hb := f171 b; exact Ev.run (.sub (.en (.f (ha)) <| .sub (.en (.f (hb)) <| .sub (.nil) <| .nil) <| .nil) <| .nil) (by kernel_rfl)⟩
theorem f171n : EvF G 171 [noTy] noTy := ⟨rfl, by exact Ev.run (.sub (.nil) <| .nil) (by kernel_rfl)⟩
theorem f96 (t u : Ty) : EvF G 96 [t.enc, u.enc] (Ty.pair t u).enc := ⟨flat2 t.flat u.flat, by exact Ev.run (.en (.f (f106 t)) <| .en (.f (f106 u)) <| .nil) (by kernel_rfl)⟩
theorem f113 (t u : Ty) : EvF G 113 [t.enc, u.enc] (Ty.fn t u).enc := ⟨flat2 t.flat u.flat, by exact Ev.run (.en (.f (f106 t)) <| .en (.f (f106 u)) <| .nil) (by kernel_rfl)⟩
theorem f23 : EvF G 23 [] Ty.nat.enc := ⟨rfl, by exact Ev.run (.nil) (by kernel_rfl)⟩
theorem f94 : EvF G 94 [] Ty.list.enc := ⟨rfl, by exact Ev.run (.nil) (by kernel_rfl)⟩
theorem f95 : EvF G 95 [] Ty.unit.enc := ⟨rfl, by exact Ev.run (.nil) (by kernel_rfl)⟩
theorem f71 : EvF G 71 [] Ty.nat.enc := ⟨rfl, by exact Ev.run (.nil) (by kernel_rfl)⟩
theorem f281 : EvF G 281 [] Ty.list.enc := ⟨rfl, by exact Ev.run (.nil) (by kernel_rfl)⟩

theorem Ty.kne {t u : Ty} (h : t.k ≠ u.k) : t ≠ u := fun e => h (by rw [e])

theorem f40 : ∀ t u : Ty, EvF G 40 [t.enc, u.enc] (.bool (decide (t = u))) := fun t u => ⟨flat2 t.flat u.flat, by
  induction t generalizing u with
  | nat => cases u; exact Ev.run (.sub (.nil) <| .nil) (by kernel_rfl); exact Ev.run (.nil) (by kernel_rfl); exact Ev.run (.nil) (by kernel_rfl); exact Ev.run (.nil) (by kernel_rfl); exact Ev.run (.nil) (by kernel_rfl)
  | list => cases u; exact Ev.run (.nil) (by kernel_rfl); exact Ev.run (.sub (.nil) <| .nil) (by kernel_rfl); exact Ev.run (.nil) (by kernel_rfl); exact Ev.run (.nil) (by kernel_rfl); exact Ev.run (.nil) (by kernel_rfl)
  | unit => cases u; exact Ev.run (.nil) (by kernel_rfl); exact Ev.run (.nil) (by kernel_rfl); exact Ev.run (.sub (.nil) <| .nil) (by kernel_rfl); exact Ev.run (.nil) (by kernel_rfl); exact Ev.run (.nil) (by kernel_rfl)
  | pair a b iha ihb =>
    cases u with
    | pair c d =>
      have ha : EvF G 40 [a.enc, c.enc] (.bool (decide (a = c))) := ⟨flat2 a.flat c.flat, iha c⟩
      have hb : EvF G 40 [b.enc, d.enc] (.bool (decide (b = d))) := ⟨flat2 b.flat d.flat, ihb d⟩
      by_cases h1 : a = c
      · have e1 := decide_eq_true h1
        by_cases h2 : b = d
        · have e2 := decide_eq_true h2
          rw [decide_eq_true (by rw [h1, h2])]
          exact Ev.run (.sub (.en (.f (ha)) <| .en (.b (bnot e1)) <| .sub (.en (.f (hb)) <| .en (.b (bnot e2)) <| .sub (.nil) <| .nil) <| .nil) <| .nil) (by kernel_rfl)
        · have e2 := decide_eq_false h2
          rw [decide_eq_false (by simp [h2])]
          exact Ev.run (.sub (.en (.f (ha)) <| .en (.b (bnot e1)) <| .sub (.en (.f (hb)) <| .en (.b (bnot e2)) <| .nil) <| .nil) <| .nil) (by kernel_rfl)
      · have e1 := decide_eq_false h1
        rw [decide_eq_false (by simp [h1])]
        exact Ev.run (.sub (.en (.f (ha)) <| .en (.b (bnot e1)) <| .nil) <| .nil) (by kernel_rfl)
    | nat => exact Ev.run (.nil) (by kernel_rfl)
    | list => exact Ev.run (.nil) (by kernel_rfl)
    | unit => exact Ev.run (.nil) (by kernel_rfl)
    | fn _ _ => exact Ev.run (.nil) (by kernel_rfl)
  | fn a b iha ihb =>
    cases u with
    | fn c d =>
      have ha : EvF G 40 [a.enc, c.enc] (.bool (decide (a = c))) := ⟨flat2 a.flat c.flat, iha c⟩
      have hb : EvF G 40 [b.enc, d.enc] (.bool (decide (b = d))) := ⟨flat2 b.flat d.flat, ihb d⟩
      by_cases h1 : a = c
      · have e1 := decide_eq_true h1
        by_cases h2 : b = d
        · have e2 := decide_eq_true h2
          rw [decide_eq_true (by rw [h1, h2])]
          exact Ev.run (.sub (.en (.f (ha)) <| .en (.b (bnot e1)) <| .sub (.en (.f (hb)) <| .en (.b (bnot e2)) <| .sub (.nil) <| .nil) <| .nil) <| .nil) (by kernel_rfl)
        · have e2 := decide_eq_false h2
          rw [decide_eq_false (by simp [h2])]
          exact Ev.run (.sub (.en (.f (ha)) <| .en (.b (bnot e1)) <| .sub (.en (.f (hb)) <| .en (.b (bnot e2)) <| .nil) <| .nil) <| .nil) (by kernel_rfl)
      · have e1 := decide_eq_false h1
        rw [decide_eq_false (by simp [h1])]
        exact Ev.run (.sub (.en (.f (ha)) <| .en (.b (bnot e1)) <| .nil) <| .nil) (by kernel_rfl)
    | nat => exact Ev.run (.nil) (by kernel_rfl)
    | list => exact Ev.run (.nil) (by kernel_rfl)
    | unit => exact Ev.run (.nil) (by kernel_rfl)
    | pair _ _ => exact Ev.run (.nil) (by kernel_rfl)⟩

theorem f165 : ∀ t u : Ty, EvF G 165 [t.enc, u.enc] (.bool (decide (t = u))) := fun t u => ⟨flat2 t.flat u.flat, by
  induction t generalizing u with
  | nat => cases u; exact Ev.run (.sub (.nil) <| .nil) (by kernel_rfl); exact Ev.run (.nil) (by kernel_rfl); exact Ev.run (.nil) (by kernel_rfl); exact Ev.run (.nil) (by kernel_rfl); exact Ev.run (.nil) (by kernel_rfl)
  | list => cases u; exact Ev.run (.nil) (by kernel_rfl); exact Ev.run (.sub (.nil) <| .nil) (by kernel_rfl); exact Ev.run (.nil) (by kernel_rfl); exact Ev.run (.nil) (by kernel_rfl); exact Ev.run (.nil) (by kernel_rfl)
  | unit => cases u; exact Ev.run (.nil) (by kernel_rfl); exact Ev.run (.nil) (by kernel_rfl); exact Ev.run (.sub (.nil) <| .nil) (by kernel_rfl); exact Ev.run (.nil) (by kernel_rfl); exact Ev.run (.nil) (by kernel_rfl)
  | pair a b iha ihb =>
    cases u with
    | pair c d =>
      have ha : EvF G 165 [a.enc, c.enc] (.bool (decide (a = c))) := ⟨flat2 a.flat c.flat, iha c⟩
      have hb : EvF G 165 [b.enc, d.enc] (.bool (decide (b = d))) := ⟨flat2 b.flat d.flat, ihb d⟩
      by_cases h1 : a = c
      · have e1 := decide_eq_true h1
        by_cases h2 : b = d
        · have e2 := decide_eq_true h2
          rw [decide_eq_true (by rw [h1, h2])]
          exact Ev.run (.sub (.en (.f (ha)) <| .en (.b (bnot e1)) <| .sub (.en (.f (hb)) <| .en (.b (bnot e2)) <| .sub (.nil) <| .nil) <| .nil) <| .nil) (by kernel_rfl)
        · have e2 := decide_eq_false h2
          rw [decide_eq_false (by simp [h2])]
          exact Ev.run (.sub (.en (.f (ha)) <| .en (.b (bnot e1)) <| .sub (.en (.f (hb)) <| .en (.b (bnot e2)) <| .nil) <| .nil) <| .nil) (by kernel_rfl)
      · have e1 := decide_eq_false h1
        rw [decide_eq_false (by simp [h1])]
        exact Ev.run (.sub (.en (.f (ha)) <| .en (.b (bnot e1)) <| .nil) <| .nil) (by kernel_rfl)
    | nat => exact Ev.run (.nil) (by kernel_rfl)
    | list => exact Ev.run (.nil) (by kernel_rfl)
    | unit => exact Ev.run (.nil) (by kernel_rfl)
    | fn _ _ => exact Ev.run (.nil) (by kernel_rfl)
  | fn a b iha ihb =>
    cases u with
    | fn c d =>
      have ha : EvF G 165 [a.enc, c.enc] (.bool (decide (a = c))) := ⟨flat2 a.flat c.flat, iha c⟩
      have hb : EvF G 165 [b.enc, d.enc] (.bool (decide (b = d))) := ⟨flat2 b.flat d.flat, ihb d⟩
      by_cases h1 : a = c
      · have e1 := decide_eq_true h1
        by_cases h2 : b = d
        · have e2 := decide_eq_true h2
          rw [decide_eq_true (by rw [h1, h2])]
          exact Ev.run (.sub (.en (.f (ha)) <| .en (.b (bnot e1)) <| .sub (.en (.f (hb)) <| .en (.b (bnot e2)) <| .sub (.nil) <| .nil) <| .nil) <| .nil) (by kernel_rfl)
        · have e2 := decide_eq_false h2
          rw [decide_eq_false (by simp [h2])]
          exact Ev.run (.sub (.en (.f (ha)) <| .en (.b (bnot e1)) <| .sub (.en (.f (hb)) <| .en (.b (bnot e2)) <| .nil) <| .nil) <| .nil) (by kernel_rfl)
      · have e1 := decide_eq_false h1
        rw [decide_eq_false (by simp [h1])]
        exact Ev.run (.sub (.en (.f (ha)) <| .en (.b (bnot e1)) <| .nil) <| .nil) (by kernel_rfl)
    | nat => exact Ev.run (.nil) (by kernel_rfl)
    | list => exact Ev.run (.nil) (by kernel_rfl)
    | unit => exact Ev.run (.nil) (by kernel_rfl)
    | pair _ _ => exact Ev.run (.nil) (by kernel_rfl)⟩

theorem Ty.size_pos (t : Ty) : 0 < t.size := by cases t <;> simp [Ty.size]

theorem f249 : ∀ t : Ty, t.size < 2 ^ 60 → EvF G 249 [t.enc] (.int .i64 t.size)
  | .nat, _ => ⟨rfl, by exact Ev.run (.sub (.nil) <| .nil) (by kernel_rfl)⟩
  | .list, _ => ⟨rfl, by exact Ev.run (.sub (.nil) <| .nil) (by kernel_rfl)⟩
  | .unit, _ => ⟨rfl, by exact Ev.run (.sub (.nil) <| .nil) (by kernel_rfl)⟩
  | .pair a b, h => ⟨flat1 (Ty.flat _), by
    simp only [Ty.size] at h
    have ha := f249 a (by omega); have hb := f249 b (by omega)
    have e1 : IntKind.wrap .i64 (1 + (a.size : Int)) = ((a.size + 1 : Nat) : Int) := wrapEq (by omega) (by omega)
    have e2 : IntKind.wrap .i64 (((a.size + 1 : Nat) : Int) + (b.size : Int)) = ((a.size + b.size + 1 : Nat) : Int) := wrapEq (by omega) (by omega)
    exact Ev.run (.sub (.en (.f (ha)) <| .en (.w (e1)) <| .sub (.en (.f (hb)) <| .en (.w (e2)) <| .sub (.nil) <| .nil) <| .nil) <| .nil) (by kernel_rfl)⟩
  | .fn a b, h => ⟨flat1 (Ty.flat _), by
    simp only [Ty.size] at h
    have ha := f249 a (by omega); have hb := f249 b (by omega)
    have e1 : IntKind.wrap .i64 (1 + (a.size : Int)) = ((a.size + 1 : Nat) : Int) := wrapEq (by omega) (by omega)
    have e2 : IntKind.wrap .i64 (((a.size + 1 : Nat) : Int) + (b.size : Int)) = ((a.size + b.size + 1 : Nat) : Int) := wrapEq (by omega) (by omega)
    exact Ev.run (.sub (.en (.f (ha)) <| .en (.w (e1)) <| .sub (.en (.f (hb)) <| .en (.w (e2)) <| .sub (.nil) <| .nil) <| .nil) <| .nil) (by kernel_rfl)⟩
theorem f248 : ∀ t : Ty, EvF G 248 [t.enc] (.bool true)
  | .nat => ⟨rfl, by exact Ev.run (.sub (.nil) <| .nil) (by kernel_rfl)⟩
  | .list => ⟨rfl, by exact Ev.run (.sub (.nil) <| .nil) (by kernel_rfl)⟩
  | .unit => ⟨rfl, by exact Ev.run (.sub (.nil) <| .nil) (by kernel_rfl)⟩
  | .pair a b => ⟨flat1 (Ty.flat _), by have ha := f248 a; have hb := f248 b; exact Ev.run (.sub (.en (.f (ha)) <| .sub (.en (.f (hb)) <| .sub (.nil) <| .nil) <| .nil) <| .nil) (by kernel_rfl)⟩
  | .fn a b => ⟨flat1 (Ty.flat _), by have ha := f248 a; have hb := f248 b; exact Ev.run (.sub (.en (.f (ha)) <| .sub (.en (.f (hb)) <| .sub (.nil) <| .nil) <| .nil) <| .nil) (by kernel_rfl)⟩
theorem f247 : ∀ t : Ty, t.size < 2 ^ 60 → EvF G 247 [t.enc] (.tuple [.int .i64 t.size, .bool true])
  | .nat, _ => ⟨rfl, by exact Ev.run (.sub (.nil) <| .nil) (by kernel_rfl)⟩
  | .list, _ => ⟨rfl, by exact Ev.run (.sub (.nil) <| .nil) (by kernel_rfl)⟩
  | .unit, _ => ⟨rfl, by exact Ev.run (.sub (.nil) <| .nil) (by kernel_rfl)⟩
  | .pair a b, h => ⟨flat1 (Ty.flat _), by
    simp only [Ty.size] at h
    have ha := f247 a (by omega); have hb := f247 b (by omega)
    have e1 : IntKind.wrap .i64 (1 + (a.size : Int)) = ((a.size + 1 : Nat) : Int) := wrapEq (by omega) (by omega)
    have e2 : IntKind.wrap .i64 (((a.size + 1 : Nat) : Int) + (b.size : Int)) = ((a.size + b.size + 1 : Nat) : Int) := wrapEq (by omega) (by omega)
    exact Ev.run (.sub (.en (.f (ha)) <| .en (.w (e1)) <| .sub (.en (.f (hb)) <| .en (.w (e2)) <| .sub (.nil) <| .nil) <| .nil) <| .nil) (by kernel_rfl)⟩
  | .fn a b, h => ⟨flat1 (Ty.flat _), by
    simp only [Ty.size] at h
    have ha := f247 a (by omega); have hb := f247 b (by omega)
    have e1 : IntKind.wrap .i64 (1 + (a.size : Int)) = ((a.size + 1 : Nat) : Int) := wrapEq (by omega) (by omega)
    have e2 : IntKind.wrap .i64 (((a.size + 1 : Nat) : Int) + (b.size : Int)) = ((a.size + b.size + 1 : Nat) : Int) := wrapEq (by omega) (by omega)
    exact Ev.run (.sub (.en (.f (ha)) <| .en (.w (e1)) <| .sub (.en (.f (hb)) <| .en (.w (e2)) <| .sub (.nil) <| .nil) <| .nil) <| .nil) (by kernel_rfl)⟩

/-- Types that are not too large. -/
def Ty.ok (t : Ty) : Prop := t.size ≤ 64

theorem f183 {t : Ty} (h : t.ok) : EvF G 183 [t.enc] (.int .i64 0) := ⟨flat1 t.flat, by
  have h' : t.size ≤ 64 := h
  have h1 := f248 t
  have h2 := f249 t (by omega)
  have e : decide ((64 : Int) < t.size) = false := decide_eq_false (by omega)
  exact Ev.run (.en (.f (h1)) <| .en (.f (h2)) <| .en (.v e) <| .nil) (by kernel_rfl)⟩
theorem f177 {t : Ty} (h : t.ok) : EvF G 177 [t.enc] (.tuple [.int .i64 t.size, .int .i64 0]) := ⟨flat1 t.flat, by
  have h' : t.size ≤ 64 := h
  have h2 := f247 t (by omega)
  have e : decide ((64 : Int) < t.size) = false := decide_eq_false (by omega)
  exact Ev.run (.en (.f (h2)) <| .en (.v e) <| .nil) (by kernel_rfl)⟩
theorem f114 {t : Ty} (h : t.ok) : EvF G 114 [t.enc] (.int .i64 0) := ⟨flat1 t.flat, by have h1 := f177 h; exact Ev.run (.en (.f (h1)) <| .nil) (by kernel_rfl)⟩
/-- A type with the number of its nodes. -/
def Ty.szd (t : Ty) : AV := .agg [.int .i64 t.k, .slice 2 t.a, .int .i64 t.size]
theorem f232 {t : Ty} (h : t.ok) : EvF G 232 [t.enc] t.szd := ⟨flat1 t.flat, by have h1 := f177 h; exact Ev.run (.en (.f (h1)) <| .nil) (by kernel_rfl)⟩
theorem f116n : EvF G 116 [.slice 2 []] (.int .i64 0) := ⟨rfl, by exact Ev.run (.sub (.nil) <| .nil) (by kernel_rfl)⟩
theorem f166n : EvF G 166 [.slice 2 []] (.int .i64 0) := ⟨rfl, by exact Ev.run (.sub (.nil) <| .nil) (by kernel_rfl)⟩
theorem f167n : EvF G 167 [.slice 2 []] (.slice 3 []) := ⟨rfl, by exact Ev.run (.sub (.nil) <| .nil) (by kernel_rfl)⟩
--theorem f124n : EvF G 124 [Ty.nat.enc] (.tuple [.bool true, .int .i64 0]) := ⟨rfl, by evrun⟩
end Go.AI

