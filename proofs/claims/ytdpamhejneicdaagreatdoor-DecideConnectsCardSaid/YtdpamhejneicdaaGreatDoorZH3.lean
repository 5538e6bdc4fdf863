/- Contracts: terms lifted, put in, looked through. -/
import Derived.Test.YtdpamhejneicdaaGreatDoorZH2
namespace Go.AI
set_option linter.unusedVariables false
set_option linter.unusedSimpArgs false
open Go
set_option maxRecDepth 100000
set_option maxHeartbeats 4000000

def Tm.up : Tm → Nat → Nat → Tm
  | .var i, n, m => .var (if m ≤ i then i + n else i)
  | .lam s a, n, m => .lam s (a.up n (m + 1))
  | .app a b, n, m => .app (a.up n m) (b.up n m)
  | .zero, n, m => .zero
  | .succ a, n, m => .succ (a.up n m)
  | .recN s a b c, n, m => .recN s (a.up n m) (b.up n m) (c.up n m)
  | .nil, n, m => .nil
  | .cons a b, n, m => .cons (a.up n m) (b.up n m)
  | .fold s a b c, n, m => .fold s (a.up n m) (b.up n m) (c.up n m)
  | .pair a b, n, m => .pair (a.up n m) (b.up n m)
  | .fst a, n, m => .fst (a.up n m)
  | .snd a, n, m => .snd (a.up n m)
  | .unit, n, m => .unit
def Tm.put : Tm → Tm → Nat → Tm
  | .var i, u, m => if i = m then u.up m 0 else if m < i then .var (i - 1) else .var i
  | .lam s a, u, m => .lam s (a.put u (m + 1))
  | .app a b, u, m => .app (a.put u m) (b.put u m)
  | .zero, u, m => .zero
  | .succ a, u, m => .succ (a.put u m)
  | .recN s a b c, u, m => .recN s (a.put u m) (b.put u m) (c.put u m)
  | .nil, u, m => .nil
  | .cons a b, u, m => .cons (a.put u m) (b.put u m)
  | .fold s a b c, u, m => .fold s (a.put u m) (b.put u m) (c.put u m)
  | .pair a b, u, m => .pair (a.put u m) (b.put u m)
  | .fst a, u, m => .fst (a.put u m)
  | .snd a, u, m => .snd (a.put u m)
  | .unit, u, m => .unit
def Tm.cnt : Tm → Nat → Nat
  | .var i, m => if i = m then 1 else 0
  | .lam s a, m => (a.cnt (m + 1))
  | .app a b, m => (a.cnt m) + (b.cnt m)
  | .zero, m => 0
  | .succ a, m => (a.cnt m)
  | .recN s a b c, m => (a.cnt m) + (b.cnt m) + (c.cnt m)
  | .nil, m => 0
  | .cons a b, m => (a.cnt m) + (b.cnt m)
  | .fold s a b c, m => (a.cnt m) + (b.cnt m) + (c.cnt m)
  | .pair a b, m => (a.cnt m) + (b.cnt m)
  | .fst a, m => (a.cnt m)
  | .snd a, m => (a.cnt m)
  | .unit, m => 0
def Tm.near (N : Nat) : Tm → Prop
  | .var i => i ≤ N
  | .lam s a => (a.near N)
  | .app a b => (a.near N) ∧ (b.near N)
  | .zero => True
  | .succ a => (a.near N)
  | .recN s a b c => (a.near N) ∧ (b.near N) ∧ (c.near N)
  | .nil => True
  | .cons a b => (a.near N) ∧ (b.near N)
  | .fold s a b c => (a.near N) ∧ (b.near N) ∧ (c.near N)
  | .pair a b => (a.near N) ∧ (b.near N)
  | .fst a => (a.near N)
  | .snd a => (a.near N)
  | .unit => True

theorem Tm.cnt_le : ∀ (x : Tm) (m : Nat), x.cnt m ≤ x.size
  | .var i, m => by simp only [Tm.cnt, Tm.size]; split <;> omega
  | .lam s a, m => by have ha := cnt_le a (m + 1); simp only [Tm.cnt, Tm.size]; omega
  | .app a b, m => by have ha := cnt_le a m; have hb := cnt_le b m; simp only [Tm.cnt, Tm.size]; omega
  | .zero, m => by simp only [Tm.cnt, Tm.size]; omega
  | .succ a, m => by have ha := cnt_le a m; simp only [Tm.cnt, Tm.size]; omega
  | .recN s a b c, m => by have ha := cnt_le a m; have hb := cnt_le b m; have hc := cnt_le c m; simp only [Tm.cnt, Tm.size]; omega
  | .nil, m => by simp only [Tm.cnt, Tm.size]; omega
  | .cons a b, m => by have ha := cnt_le a m; have hb := cnt_le b m; simp only [Tm.cnt, Tm.size]; omega
  | .fold s a b c, m => by have ha := cnt_le a m; have hb := cnt_le b m; have hc := cnt_le c m; simp only [Tm.cnt, Tm.size]; omega
  | .pair a b, m => by have ha := cnt_le a m; have hb := cnt_le b m; simp only [Tm.cnt, Tm.size]; omega
  | .fst a, m => by have ha := cnt_le a m; simp only [Tm.cnt, Tm.size]; omega
  | .snd a, m => by have ha := cnt_le a m; simp only [Tm.cnt, Tm.size]; omega
  | .unit, m => by simp only [Tm.cnt, Tm.size]; omega

theorem Tm.size_pos (x : Tm) : 0 < x.size := by cases x <;> simp [Tm.size]
abbrev Tm.cells (u : Tm) : List AV := [.int .i64 u.k, .int .i64 u.i, .int .i64 u.t, .slice 2 u.u, .slice 5 u.a]
abbrev SGl (m n : Nat) : Sig := [.box [.int .i64 (m : Int)] [], .box [.int .i64 (n : Int)] [], .box [.func 317 [] [.ptr 0 0, .ptr 1 0]] [], .box [.func 316 [] [.ptr 2 0, .ptr 3 0]] []]
abbrev SGp (m : Nat) (U : List AV) : Sig := [.box [.int .i64 (m : Int)] [], .box U [], .box [.func 269 [] [.ptr 0 0, .ptr 1 0]] [], .box [.func 316 [] [.ptr 2 0, .ptr 3 0]] []]
abbrev SGn : Sig := [.box [.bool true] [], .box [.func 222 [] [.ptr 0 0]] [], .box [.func 277 [] [.ptr 1 0, .ptr 2 0]] []]
abbrev SGc (m n : Nat) : Sig := [.box [.int .i64 (m : Int)] [], .box [.int .i64 (n : Int)] [], .box [.func 278 [] [.ptr 0 0, .ptr 1 0]] [], .box [.func 277 [] [.ptr 2 0, .ptr 3 0]] []]
theorem shareds {x : AV} {b : Int} {p q : Nat} : AV.flatL [x, .int .i64 b, .ptr p 0, .ptr q 0] = false := by simp [AV.flatL, AV.flat]
theorem flatTI {x : AV} (h : x.flat = true) (m n : Int) : AV.flatL [x, .int .i64 m, .int .i64 n] = true := by simp [AV.flatL, AV.flat, h]
theorem flatT1 {x : AV} (h : x.flat = true) (m : Int) : AV.flatL [x, .int .i64 m] = true := by simp [AV.flatL, AV.flat, h]
theorem flatTIT {x y : AV} (h : x.flat = true) (m : Int) (h2 : y.flat = true) : AV.flatL [x, .int .i64 m, y] = true := by simp [AV.flatL, AV.flat, h, h2]
theorem flatTIIT {x y : AV} (h : x.flat = true) (m n : Int) (h2 : y.flat = true) : AV.flatL [x, .int .i64 m, .int .i64 n, y] = true := by simp [AV.flatL, AV.flat, h, h2]

/-! ### tree.Lift -/

theorem c317 (m n b x : Nat) (hm : m < 2 ^ 60) (hn : n < 2 ^ 60) (hb : b < 2 ^ 60) (hx : x < 2 ^ 60) :
    EvC G 317 [.int .i64 (x : Int), .int .i64 (b : Int), .ptr 0 0, .ptr 1 0] (SGl m n) false ((Tm.var x).up n (m + b)).enc (SGl m n) := .with (by
  have e : IntKind.wrap .i64 ((x : Int) - (b : Int)) = (x : Int) - (b : Int) := wrapI (by omega) (by omega)
  have e2 : IntKind.wrap .i64 ((x : Int) + (n : Int)) = ((x + n : Nat) : Int) := wrapEq (by omega) (by omega)
  by_cases h : m + b ≤ x
  · have q : decide ((m : Int) ≤ (x : Int) - (b : Int)) = true := decide_eq_true (by omega)
    rw [show (Tm.var x).up n (m + b) = .var (x + n) by simp [Tm.up, h]]
    exact Ev.run (.en (.w (e)) <| .en (.v q) <| .en (.w (e2)) <| .en (.f (f267 (x + n))) <| .nil) (by kernel_rfl)
  · have q : decide ((m : Int) ≤ (x : Int) - (b : Int)) = false := decide_eq_false (by omega)
    rw [show (Tm.var x).up n (m + b) = .var x by simp [Tm.up, h]]
    exact Ev.run (.en (.w (e)) <| .en (.v q) <| .en (.f (f267 x)) <| .nil) (by kernel_rfl)) rfl

theorem c316l (m n : Nat) (hm : m < 2 ^ 59) (hn : n < 2 ^ 59) : ∀ (x : Tm) (d : Nat), x.near (2 ^ 59) → d + x.size < 2 ^ 59 → EvC G 316 [x.enc, .int .i64 (d : Int), .ptr 2 0, .ptr 3 0] (SGl m n) false (x.up n (m + d)).enc (SGl m n)
  | .var i, d, hx, hb => .with (by
    have hi : i ≤ 2 ^ 59 := hx
    have h := c317 m n d i (by omega) (by omega) (by omega) (by omega)
    exact Ev.run (.en (.r (h)) <| .nil) (by kernel_rfl)) shareds
  | .lam s a, d, hx, hb => .with (by
    have na := hx
    simp only [Tm.size] at hb
    have w : IntKind.wrap .i64 ((d : Int) + 1) = ((d + 1 : Nat) : Int) := wrapEq (by omega) (by omega)
    have h1 := c316l m n hm hn a (d + 1) na (by omega)
    exact Ev.run (.en (.f (f171 s)) <| .en (.w (w)) <| .sub (.en (.r (h1)) <| .sub (.nil) <| .nil) <| .nil) (by kernel_rfl)) shareds
  | .app a b, d, hx, hb => .with (by
    obtain ⟨na, nb⟩ := hx
    simp only [Tm.size] at hb
    have ha := c316l m n hm hn a d na (by omega)
    have hb := c316l m n hm hn b d nb (by omega)
    exact Ev.run (.en (.f (f171n)) <| .sub (.en (.r (ha)) <| .sub (.en (.r (hb)) <| .sub (.nil) <| .nil) <| .nil) <| .nil) (by kernel_rfl)) shareds
  | .zero, d, hx, hb => .with (by
    exact Ev.run (.en (.f (f171n)) <| .sub (.nil) <| .nil) (by kernel_rfl)) shareds
  | .succ a, d, hx, hb => .with (by
    have na := hx
    simp only [Tm.size] at hb
    have ha := c316l m n hm hn a d na (by omega)
    exact Ev.run (.en (.f (f171n)) <| .sub (.en (.r (ha)) <| .sub (.nil) <| .nil) <| .nil) (by kernel_rfl)) shareds
  | .recN s a b c, d, hx, hb => .with (by
    obtain ⟨na, nb, nc⟩ := hx
    simp only [Tm.size] at hb
    have ha := c316l m n hm hn a d na (by omega)
    have hb := c316l m n hm hn b d nb (by omega)
    have hc := c316l m n hm hn c d nc (by omega)
    exact Ev.run (.en (.f (f171 s)) <| .sub (.en (.r (ha)) <| .sub (.en (.r (hb)) <| .sub (.en (.r (hc)) <| .sub (.nil) <| .nil) <| .nil) <| .nil) <| .nil) (by kernel_rfl)) shareds
  | .nil, d, hx, hb => .with (by
    exact Ev.run (.en (.f (f171n)) <| .sub (.nil) <| .nil) (by kernel_rfl)) shareds
  | .cons a b, d, hx, hb => .with (by
    obtain ⟨na, nb⟩ := hx
    simp only [Tm.size] at hb
    have ha := c316l m n hm hn a d na (by omega)
    have hb := c316l m n hm hn b d nb (by omega)
    exact Ev.run (.en (.f (f171n)) <| .sub (.en (.r (ha)) <| .sub (.en (.r (hb)) <| .sub (.nil) <| .nil) <| .nil) <| .nil) (by kernel_rfl)) shareds
  | .fold s a b c, d, hx, hb => .with (by
    obtain ⟨na, nb, nc⟩ := hx
    simp only [Tm.size] at hb
    have ha := c316l m n hm hn a d na (by omega)
    have hb := c316l m n hm hn b d nb (by omega)
    have hc := c316l m n hm hn c d nc (by omega)
    exact Ev.run (.en (.f (f171 s)) <| .sub (.en (.r (ha)) <| .sub (.en (.r (hb)) <| .sub (.en (.r (hc)) <| .sub (.nil) <| .nil) <| .nil) <| .nil) <| .nil) (by kernel_rfl)) shareds
  | .pair a b, d, hx, hb => .with (by
    obtain ⟨na, nb⟩ := hx
    simp only [Tm.size] at hb
    have ha := c316l m n hm hn a d na (by omega)
    have hb := c316l m n hm hn b d nb (by omega)
    exact Ev.run (.en (.f (f171n)) <| .sub (.en (.r (ha)) <| .sub (.en (.r (hb)) <| .sub (.nil) <| .nil) <| .nil) <| .nil) (by kernel_rfl)) shareds
  | .fst a, d, hx, hb => .with (by
    have na := hx
    simp only [Tm.size] at hb
    have ha := c316l m n hm hn a d na (by omega)
    exact Ev.run (.en (.f (f171n)) <| .sub (.en (.r (ha)) <| .sub (.nil) <| .nil) <| .nil) (by kernel_rfl)) shareds
  | .snd a, d, hx, hb => .with (by
    have na := hx
    simp only [Tm.size] at hb
    have ha := c316l m n hm hn a d na (by omega)
    exact Ev.run (.en (.f (f171n)) <| .sub (.en (.r (ha)) <| .sub (.nil) <| .nil) <| .nil) (by kernel_rfl)) shareds
  | .unit, d, hx, hb => .with (by
    exact Ev.run (.en (.f (f171n)) <| .sub (.nil) <| .nil) (by kernel_rfl)) shareds

/-- tree.Lift -/
theorem f270 {m n : Nat} {x : Tm} (hm : m < 2 ^ 59) (hn : n < 2 ^ 59) (hx : x.near (2 ^ 59)) (hs : x.size < 2 ^ 59) : EvF G 270 [x.enc, .int .i64 (m : Int), .int .i64 (n : Int)] (x.up n m).enc := ⟨flatTI x.flat m n, by
  have h := c316l m n hm hn x 0 hx (by omega)
  have hv := (x.up n m).flat
  have hf : AV.flatL [x.enc, .func 317 [] [.ptr 0 0, .ptr 1 0]] = false := by simp [AV.flatL, AV.flat]
  exact Ev.run (.subW hf (.en (.r (h)) <| .en (.u hv) <| .nil) <| .en (.u hv) <| .nil) (by kernel_rfl)⟩

/-! ### tree.Put -/

theorem Tm.near_mono {N M : Nat} (h : N ≤ M) : ∀ (x : Tm), x.near N → x.near M
  | .var i, hx => Nat.le_trans hx h
  | .lam s a, hx => near_mono h a hx
  | .app a b, ⟨na, nb⟩ => ⟨near_mono h a na, near_mono h b nb⟩
  | .zero, _ => trivial
  | .succ a, hx => near_mono h a hx
  | .recN s a b c, ⟨na, nb, nc⟩ => ⟨near_mono h a na, near_mono h b nb, near_mono h c nc⟩
  | .nil, _ => trivial
  | .cons a b, ⟨na, nb⟩ => ⟨near_mono h a na, near_mono h b nb⟩
  | .fold s a b c, ⟨na, nb, nc⟩ => ⟨near_mono h a na, near_mono h b nb, near_mono h c nc⟩
  | .pair a b, ⟨na, nb⟩ => ⟨near_mono h a na, near_mono h b nb⟩
  | .fst a, hx => near_mono h a hx
  | .snd a, hx => near_mono h a hx
  | .unit, _ => trivial

theorem c269 (m b x : Nat) (u : Tm) (U : List AV) (hm : m < 2 ^ 58) (hb : b < 2 ^ 58) (hx : x < 2 ^ 60) (hu : u.near (2 ^ 59)) (hs : u.size < 2 ^ 59) (hU : (Tm.var x).cnt (m + b) = 0 ∨ U = u.cells) :
    EvC G 269 [.int .i64 (x : Int), .int .i64 (b : Int), .ptr 0 0, .ptr 1 0] (SGp m U) false ((Tm.var x).put u (m + b)).enc (SGp m U) := .with (by
  have e : IntKind.wrap .i64 ((x : Int) - (b : Int)) = (x : Int) - (b : Int) := wrapI (by omega) (by omega)
  have e2 : IntKind.wrap .i64 ((m : Int) + (b : Int)) = ((m + b : Nat) : Int) := wrapEq (by omega) (by omega)
  by_cases h : x = m + b
  · have hU' : U = u.cells := by
      rcases hU with h0 | h0
      · simp [Tm.cnt, h] at h0
      · exact h0
    subst hU'
    have q : ((x : Int) - (b : Int) == (m : Int)) = true := by simp; omega
    rw [show (Tm.var x).put u (m + b) = u.up (m + b) 0 by simp [Tm.put, h]]
    have hl := f270 (m := 0) (n := m + b) (x := u) (by omega) (by omega) hu hs
    exact Ev.run (.en (.w (e)) <| .en (.v q) <| .en (.w (e2)) <| .en (.f (hl)) <| .nil) (by kernel_rfl)
  · have q : ((x : Int) - (b : Int) == (m : Int)) = false := by simp; omega
    by_cases h2 : m + b < x
    · have q2 : decide ((m : Int) < (x : Int) - (b : Int)) = true := decide_eq_true (by omega)
      have e3 : IntKind.wrap .i64 ((x : Int) - 1) = ((x - 1 : Nat) : Int) := wrapEq (by omega) (by omega)
      rw [show (Tm.var x).put u (m + b) = .var (x - 1) by simp [Tm.put, h, h2]]
      exact Ev.run (.en (.w (e)) <| .en (.v q) <| .en (.v q2) <| .en (.w (e3)) <| .en (.f (f267 (x - 1))) <| .nil) (by kernel_rfl)
    · have q2 : decide ((m : Int) < (x : Int) - (b : Int)) = false := decide_eq_false (by omega)
      rw [show (Tm.var x).put u (m + b) = .var x by simp [Tm.put, h, h2]]
      exact Ev.run (.en (.w (e)) <| .en (.v q) <| .en (.v q2) <| .en (.f (f267 x)) <| .nil) (by kernel_rfl)) rfl

theorem c316p (m : Nat) (u : Tm) (U : List AV) (hm : m < 2 ^ 58) (hu : u.near (2 ^ 59)) (hs : u.size < 2 ^ 59) : ∀ (x : Tm) (d : Nat), x.near (2 ^ 59) → d + x.size < 2 ^ 58 → (x.cnt (m + d) = 0 ∨ U = u.cells) → EvC G 316 [x.enc, .int .i64 (d : Int), .ptr 2 0, .ptr 3 0] (SGp m U) false (x.put u (m + d)).enc (SGp m U)
  | .var i, d, hx, hb, hU => .with (by
    have hi : i ≤ 2 ^ 59 := hx
    have h := c269 m d i u U (by omega) (by omega) (by omega) hu hs hU
    exact Ev.run (.en (.r (h)) <| .nil) (by kernel_rfl)) shareds
  | .lam s a, d, hx, hb, hU => .with (by
    have na := hx
    simp only [Tm.size] at hb
    have w : IntKind.wrap .i64 ((d : Int) + 1) = ((d + 1 : Nat) : Int) := wrapEq (by omega) (by omega)
    have h1 := c316p m u U hm hu hs a (d + 1) na (by omega) hU
    exact Ev.run (.en (.f (f171 s)) <| .en (.w (w)) <| .sub (.en (.r (h1)) <| .sub (.nil) <| .nil) <| .nil) (by kernel_rfl)) shareds
  | .app a b, d, hx, hb, hU => .with (by
    obtain ⟨na, nb⟩ := hx
    simp only [Tm.size] at hb
    have ha := c316p m u U hm hu hs a d na (by omega) (hU.imp_left fun h => by simp only [Tm.cnt] at h; omega)
    have hb := c316p m u U hm hu hs b d nb (by omega) (hU.imp_left fun h => by simp only [Tm.cnt] at h; omega)
    exact Ev.run (.en (.f (f171n)) <| .sub (.en (.r (ha)) <| .sub (.en (.r (hb)) <| .sub (.nil) <| .nil) <| .nil) <| .nil) (by kernel_rfl)) shareds
  | .zero, d, hx, hb, hU => .with (by
    exact Ev.run (.en (.f (f171n)) <| .sub (.nil) <| .nil) (by kernel_rfl)) shareds
  | .succ a, d, hx, hb, hU => .with (by
    have na := hx
    simp only [Tm.size] at hb
    have ha := c316p m u U hm hu hs a d na (by omega) (hU.imp_left fun h => by simp only [Tm.cnt] at h; omega)
    exact Ev.run (.en (.f (f171n)) <| .sub (.en (.r (ha)) <| .sub (.nil) <| .nil) <| .nil) (by kernel_rfl)) shareds
  | .recN s a b c, d, hx, hb, hU => .with (by
    obtain ⟨na, nb, nc⟩ := hx
    simp only [Tm.size] at hb
    have ha := c316p m u U hm hu hs a d na (by omega) (hU.imp_left fun h => by simp only [Tm.cnt] at h; omega)
    have hb := c316p m u U hm hu hs b d nb (by omega) (hU.imp_left fun h => by simp only [Tm.cnt] at h; omega)
    have hc := c316p m u U hm hu hs c d nc (by omega) (hU.imp_left fun h => by simp only [Tm.cnt] at h; omega)
    exact Ev.run (.en (.f (f171 s)) <| .sub (.en (.r (ha)) <| .sub (.en (.r (hb)) <| .sub (.en (.r (hc)) <| .sub (.nil) <| .nil) <| .nil) <| .nil) <| .nil) (by kernel_rfl)) shareds
  | .nil, d, hx, hb, hU => .with (by
    exact Ev.run (.en (.f (f171n)) <| .sub (.nil) <| .nil) (by kernel_rfl)) shareds
  | .cons a b, d, hx, hb, hU => .with (by
    obtain ⟨na, nb⟩ := hx
    simp only [Tm.size] at hb
    have ha := c316p m u U hm hu hs a d na (by omega) (hU.imp_left fun h => by simp only [Tm.cnt] at h; omega)
    have hb := c316p m u U hm hu hs b d nb (by omega) (hU.imp_left fun h => by simp only [Tm.cnt] at h; omega)
    exact Ev.run (.en (.f (f171n)) <| .sub (.en (.r (ha)) <| .sub (.en (.r (hb)) <| .sub (.nil) <| .nil) <| .nil) <| .nil) (by kernel_rfl)) shareds
  | .fold s a b c, d, hx, hb, hU => .with (by
    obtain ⟨na, nb, nc⟩ := hx
    simp only [Tm.size] at hb
    have ha := c316p m u U hm hu hs a d na (by omega) (hU.imp_left fun h => by simp only [Tm.cnt] at h; omega)
    have hb := c316p m u U hm hu hs b d nb (by omega) (hU.imp_left fun h => by simp only [Tm.cnt] at h; omega)
    have hc := c316p m u U hm hu hs c d nc (by omega) (hU.imp_left fun h => by simp only [Tm.cnt] at h; omega)
    exact Ev.run (.en (.f (f171 s)) <| .sub (.en (.r (ha)) <| .sub (.en (.r (hb)) <| .sub (.en (.r (hc)) <| .sub (.nil) <| .nil) <| .nil) <| .nil) <| .nil) (by kernel_rfl)) shareds
  | .pair a b, d, hx, hb, hU => .with (by
    obtain ⟨na, nb⟩ := hx
    simp only [Tm.size] at hb
    have ha := c316p m u U hm hu hs a d na (by omega) (hU.imp_left fun h => by simp only [Tm.cnt] at h; omega)
    have hb := c316p m u U hm hu hs b d nb (by omega) (hU.imp_left fun h => by simp only [Tm.cnt] at h; omega)
    exact Ev.run (.en (.f (f171n)) <| .sub (.en (.r (ha)) <| .sub (.en (.r (hb)) <| .sub (.nil) <| .nil) <| .nil) <| .nil) (by kernel_rfl)) shareds
  | .fst a, d, hx, hb, hU => .with (by
    have na := hx
    simp only [Tm.size] at hb
    have ha := c316p m u U hm hu hs a d na (by omega) (hU.imp_left fun h => by simp only [Tm.cnt] at h; omega)
    exact Ev.run (.en (.f (f171n)) <| .sub (.en (.r (ha)) <| .sub (.nil) <| .nil) <| .nil) (by kernel_rfl)) shareds
  | .snd a, d, hx, hb, hU => .with (by
    have na := hx
    simp only [Tm.size] at hb
    have ha := c316p m u U hm hu hs a d na (by omega) (hU.imp_left fun h => by simp only [Tm.cnt] at h; omega)
    exact Ev.run (.en (.f (f171n)) <| .sub (.en (.r (ha)) <| .sub (.nil) <| .nil) <| .nil) (by kernel_rfl)) shareds
  | .unit, d, hx, hb, hU => .with (by
    exact Ev.run (.en (.f (f171n)) <| .sub (.nil) <| .nil) (by kernel_rfl)) shareds

/-- tree.Put -/
theorem f208 {m : Nat} {x u : Tm} (hm : m < 2 ^ 58) (hx : x.near (2 ^ 59)) (hs : x.size < 2 ^ 58) (hu : u.near (2 ^ 59)) (hus : u.size < 2 ^ 59) : EvF G 208 [x.enc, .int .i64 (m : Int), u.enc] (x.put u m).enc := ⟨flatTIT x.flat m u.flat, by
  have h := c316p m u u.cells hm hu hus x 0 hx (by omega) (.inr rfl)
  have hv := (x.put u m).flat
  have hf : AV.flatL [x.enc, .func 269 [] [.ptr 0 0, .ptr 1 0]] = false := by simp [AV.flatL, AV.flat]
  exact Ev.run (.subW hf (.en (.r (h)) <| .en (.u hv) <| .nil) <| .en (.u hv) <| .nil) (by kernel_rfl)⟩
abbrev noTm : AV := node 0 0 0 [] []
theorem f208n {m : Nat} {x : Tm} (hm : m < 2 ^ 58) (hx : x.near (2 ^ 59)) (hs : x.size < 2 ^ 58) (h0 : x.cnt m = 0) : EvF G 208 [x.enc, .int .i64 (m : Int), noTm] (x.put .unit m).enc := ⟨flatTIT x.flat m rfl, by
  have h := c316p m .unit [.int .i64 0, .int .i64 0, .int .i64 0, .slice 2 [], .slice 5 []] hm trivial (by decide) x 0 hx (by omega) (.inl h0)
  have hv := (x.put .unit m).flat
  have hf : AV.flatL [x.enc, .func 269 [] [.ptr 0 0, .ptr 1 0]] = false := by simp [AV.flatL, AV.flat]
  exact Ev.run (.subW hf (.en (.r (h)) <| .en (.u hv) <| .nil) <| .en (.u hv) <| .nil) (by kernel_rfl)⟩

/-! ### tree.Near, tree.Count -/

theorem c277n : ∀ (x : Tm) (d : Nat), x.near (2 ^ 29) → d + x.size < 2 ^ 59 → EvC G 277 [x.enc, .int .i64 (d : Int), .ptr 1 0, .ptr 2 0] SGn false (.tuple []) SGn
  | .var i, d, hx, hb => .with (by
    have hi : i ≤ 2 ^ 29 := hx
    have q : decide ((i : Int) ≤ 536870912) = true := decide_eq_true (by omega)
    exact Ev.run (.sub (.en (.v q) <| .nil) <| .sub (.nil) <| .nil) (by kernel_rfl)) shareds
  | .lam s a, d, hx, hb => .with (by
    have na := hx
    simp only [Tm.size] at hb
    have w : IntKind.wrap .i64 ((d : Int) + 1) = ((d + 1 : Nat) : Int) := wrapEq (by omega) (by omega)
    have h1 := c277n a (d + 1) na (by omega)
    exact Ev.run (.en (.w (w)) <| .sub (.en (.r (h1)) <| .sub (.nil) <| .nil) <| .nil) (by kernel_rfl)) shareds
  | .app a b, d, hx, hb => .with (by
    obtain ⟨na, nb⟩ := hx
    simp only [Tm.size] at hb
    have ha := c277n a d na (by omega)
    have hb := c277n b d nb (by omega)
    exact Ev.run (.sub (.en (.r (ha)) <| .sub (.en (.r (hb)) <| .sub (.nil) <| .nil) <| .nil) <| .nil) (by kernel_rfl)) shareds
  | .zero, d, hx, hb => .with (by
    exact Ev.run (.sub (.nil) <| .nil) (by kernel_rfl)) shareds
  | .succ a, d, hx, hb => .with (by
    have na := hx
    simp only [Tm.size] at hb
    have ha := c277n a d na (by omega)
    exact Ev.run (.sub (.en (.r (ha)) <| .sub (.nil) <| .nil) <| .nil) (by kernel_rfl)) shareds
  | .recN s a b c, d, hx, hb => .with (by
    obtain ⟨na, nb, nc⟩ := hx
    simp only [Tm.size] at hb
    have ha := c277n a d na (by omega)
    have hb := c277n b d nb (by omega)
    have hc := c277n c d nc (by omega)
    exact Ev.run (.sub (.en (.r (ha)) <| .sub (.en (.r (hb)) <| .sub (.en (.r (hc)) <| .sub (.nil) <| .nil) <| .nil) <| .nil) <| .nil) (by kernel_rfl)) shareds
  | .nil, d, hx, hb => .with (by
    exact Ev.run (.sub (.nil) <| .nil) (by kernel_rfl)) shareds
  | .cons a b, d, hx, hb => .with (by
    obtain ⟨na, nb⟩ := hx
    simp only [Tm.size] at hb
    have ha := c277n a d na (by omega)
    have hb := c277n b d nb (by omega)
    exact Ev.run (.sub (.en (.r (ha)) <| .sub (.en (.r (hb)) <| .sub (.nil) <| .nil) <| .nil) <| .nil) (by kernel_rfl)) shareds
  | .fold s a b c, d, hx, hb => .with (by
    obtain ⟨na, nb, nc⟩ := hx
    simp only [Tm.size] at hb
    have ha := c277n a d na (by omega)
    have hb := c277n b d nb (by omega)
    have hc := c277n c d nc (by omega)
    exact Ev.run (.sub (.en (.r (ha)) <| .sub (.en (.r (hb)) <| .sub (.en (.r (hc)) <| .sub (.nil) <| .nil) <| .nil) <| .nil) <| .nil) (by kernel_rfl)) shareds
  | .pair a b, d, hx, hb => .with (by
    obtain ⟨na, nb⟩ := hx
    simp only [Tm.size] at hb
    have ha := c277n a d na (by omega)
    have hb := c277n b d nb (by omega)
    exact Ev.run (.sub (.en (.r (ha)) <| .sub (.en (.r (hb)) <| .sub (.nil) <| .nil) <| .nil) <| .nil) (by kernel_rfl)) shareds
  | .fst a, d, hx, hb => .with (by
    have na := hx
    simp only [Tm.size] at hb
    have ha := c277n a d na (by omega)
    exact Ev.run (.sub (.en (.r (ha)) <| .sub (.nil) <| .nil) <| .nil) (by kernel_rfl)) shareds
  | .snd a, d, hx, hb => .with (by
    have na := hx
    simp only [Tm.size] at hb
    have ha := c277n a d na (by omega)
    exact Ev.run (.sub (.en (.r (ha)) <| .sub (.nil) <| .nil) <| .nil) (by kernel_rfl)) shareds
  | .unit, d, hx, hb => .with (by
    exact Ev.run (.sub (.nil) <| .nil) (by kernel_rfl)) shareds

theorem f152 {x : Tm} (hx : x.near (2 ^ 29)) (hs : x.size < 2 ^ 59) : EvF G 152 [x.enc] (.bool true) := ⟨flat1 x.flat, by
  have h := c277n x 0 hx (by omega)
  have hf : AV.flatL [x.enc, .func 222 [] [.ptr 0 0]] = false := by simp [AV.flatL, AV.flat]
  exact Ev.run (.subW hf (.en (.r (h)) <| .nil) <| .nil) (by kernel_rfl)⟩

theorem c278 (m n b i : Nat) (hm : m < 2 ^ 60) (hn : n < 2 ^ 60) (hb : b < 2 ^ 60) (hi : i < 2 ^ 60) : EvC G 278 [.int .i64 (i : Int), .int .i64 (b : Int), .ptr 0 0, .ptr 1 0] (SGc m n) false (.tuple []) (SGc m (n + (Tm.var i).cnt (m + b))) := .with (by
  have e : IntKind.wrap .i64 ((i : Int) - (b : Int)) = (i : Int) - (b : Int) := wrapI (by omega) (by omega)
  have e2 : IntKind.wrap .i64 ((n : Int) + 1) = ((n + 1 : Nat) : Int) := wrapEq (by omega) (by omega)
  by_cases h : i = m + b
  · have q : ((i : Int) - (b : Int) == (m : Int)) = true := by simp; omega
    rw [show (Tm.var i).cnt (m + b) = 1 by simp [Tm.cnt, h]]
    exact Ev.run (.en (.w (e)) <| .en (.v q) <| .en (.w (e2)) <| .nil) (by kernel_rfl)
  · have q : ((i : Int) - (b : Int) == (m : Int)) = false := by simp; omega
    rw [show (Tm.var i).cnt (m + b) = 0 by simp [Tm.cnt, h]]
    exact Ev.run (.en (.w (e)) <| .en (.v q) <| .nil) (by kernel_rfl)) rfl
theorem c277c (m : Nat) (hm : m < 2 ^ 59) : ∀ (x : Tm) (d n : Nat), x.near (2 ^ 59) → d + n + x.size < 2 ^ 59 → EvC G 277 [x.enc, .int .i64 (d : Int), .ptr 2 0, .ptr 3 0] (SGc m n) false (.tuple []) (SGc m (n + x.cnt (m + d)))
  | .var i, d, n, hx, hb => .with (by
    have hi : i ≤ 2 ^ 59 := hx
    have h := c278 m n d i (by omega) (by omega) (by omega) (by omega)
    exact Ev.run (.en (.r (h)) <| .sub (.nil) <| .nil) (by kernel_rfl)) shareds
  | .lam s a, d, n, hx, hb => .with (by
    have na := hx
    simp only [Tm.size] at hb
    have w : IntKind.wrap .i64 ((d : Int) + 1) = ((d + 1 : Nat) : Int) := wrapEq (by omega) (by omega)
    have h1 := c277c m hm a (d + 1) n na (by omega)
    exact Ev.run (.en (.w (w)) <| .sub (.en (.r (h1)) <| .sub (.nil) <| .nil) <| .nil) (by kernel_rfl)) shareds
  | .app a b, d, n, hx, hb => .with (by
    obtain ⟨na, nb⟩ := hx
    simp only [Tm.size] at hb
    have ka := Tm.cnt_le a (m + d)
    have kb := Tm.cnt_le b (m + d)
    have ha := c277c m hm a d n na (by omega)
    have hb := c277c m hm b d (n + a.cnt (m + d)) nb (by omega)
    rw [show n + (Tm.app a b).cnt (m + d) = ((n + a.cnt (m + d)) + b.cnt (m + d)) by simp only [Tm.cnt]; omega]
    exact Ev.run (.sub (.en (.r (ha)) <| .sub (.en (.r (hb)) <| .sub (.nil) <| .nil) <| .nil) <| .nil) (by kernel_rfl)) shareds
  | .zero, d, n, hx, hb => .with (by
    exact Ev.run (.sub (.nil) <| .nil) (by kernel_rfl)) shareds
  | .succ a, d, n, hx, hb => .with (by
    have na := hx
    simp only [Tm.size] at hb
    have ka := Tm.cnt_le a (m + d)
    have ha := c277c m hm a d n na (by omega)
    exact Ev.run (.sub (.en (.r (ha)) <| .sub (.nil) <| .nil) <| .nil) (by kernel_rfl)) shareds
  | .recN s a b c, d, n, hx, hb => .with (by
    obtain ⟨na, nb, nc⟩ := hx
    simp only [Tm.size] at hb
    have ka := Tm.cnt_le a (m + d)
    have kb := Tm.cnt_le b (m + d)
    have kc := Tm.cnt_le c (m + d)
    have ha := c277c m hm a d n na (by omega)
    have hb := c277c m hm b d (n + a.cnt (m + d)) nb (by omega)
    have hc := c277c m hm c d ((n + a.cnt (m + d)) + b.cnt (m + d)) nc (by omega)
    rw [show n + (Tm.recN s a b c).cnt (m + d) = (((n + a.cnt (m + d)) + b.cnt (m + d)) + c.cnt (m + d)) by simp only [Tm.cnt]; omega]
    exact Ev.run (.sub (.en (.r (ha)) <| .sub (.en (.r (hb)) <| .sub (.en (.r (hc)) <| .sub (.nil) <| .nil) <| .nil) <| .nil) <| .nil) (by kernel_rfl)) shareds
  | .nil, d, n, hx, hb => .with (by
    exact Ev.run (.sub (.nil) <| .nil) (by kernel_rfl)) shareds
  | .cons a b, d, n, hx, hb => .with (by
    obtain ⟨na, nb⟩ := hx
    simp only [Tm.size] at hb
    have ka := Tm.cnt_le a (m + d)
    have kb := Tm.cnt_le b (m + d)
    have ha := c277c m hm a d n na (by omega)
    have hb := c277c m hm b d (n + a.cnt (m + d)) nb (by omega)
    rw [show n + (Tm.cons a b).cnt (m + d) = ((n + a.cnt (m + d)) + b.cnt (m + d)) by simp only [Tm.cnt]; omega]
    exact Ev.run (.sub (.en (.r (ha)) <| .sub (.en (.r (hb)) <| .sub (.nil) <| .nil) <| .nil) <| .nil) (by kernel_rfl)) shareds
  | .fold s a b c, d, n, hx, hb => .with (by
    obtain ⟨na, nb, nc⟩ := hx
    simp only [Tm.size] at hb
    have ka := Tm.cnt_le a (m + d)
    have kb := Tm.cnt_le b (m + d)
    have kc := Tm.cnt_le c (m + d)
    have ha := c277c m hm a d n na (by omega)
    have hb := c277c m hm b d (n + a.cnt (m + d)) nb (by omega)
    have hc := c277c m hm c d ((n + a.cnt (m + d)) + b.cnt (m + d)) nc (by omega)
    rw [show n + (Tm.fold s a b c).cnt (m + d) = (((n + a.cnt (m + d)) + b.cnt (m + d)) + c.cnt (m + d)) by simp only [Tm.cnt]; omega]
    exact Ev.run (.sub (.en (.r (ha)) <| .sub (.en (.r (hb)) <| .sub (.en (.r (hc)) <| .sub (.nil) <| .nil) <| .nil) <| .nil) <| .nil) (by kernel_rfl)) shareds
  | .pair a b, d, n, hx, hb => .with (by
    obtain ⟨na, nb⟩ := hx
    simp only [Tm.size] at hb
    have ka := Tm.cnt_le a (m + d)
    have kb := Tm.cnt_le b (m + d)
    have ha := c277c m hm a d n na (by omega)
    have hb := c277c m hm b d (n + a.cnt (m + d)) nb (by omega)
    rw [show n + (Tm.pair a b).cnt (m + d) = ((n + a.cnt (m + d)) + b.cnt (m + d)) by simp only [Tm.cnt]; omega]
    exact Ev.run (.sub (.en (.r (ha)) <| .sub (.en (.r (hb)) <| .sub (.nil) <| .nil) <| .nil) <| .nil) (by kernel_rfl)) shareds
  | .fst a, d, n, hx, hb => .with (by
    have na := hx
    simp only [Tm.size] at hb
    have ka := Tm.cnt_le a (m + d)
    have ha := c277c m hm a d n na (by omega)
    exact Ev.run (.sub (.en (.r (ha)) <| .sub (.nil) <| .nil) <| .nil) (by kernel_rfl)) shareds
  | .snd a, d, n, hx, hb => .with (by
    have na := hx
    simp only [Tm.size] at hb
    have ka := Tm.cnt_le a (m + d)
    have ha := c277c m hm a d n na (by omega)
    exact Ev.run (.sub (.en (.r (ha)) <| .sub (.nil) <| .nil) <| .nil) (by kernel_rfl)) shareds
  | .unit, d, n, hx, hb => .with (by
    exact Ev.run (.sub (.nil) <| .nil) (by kernel_rfl)) shareds

theorem f224 {x : Tm} {m : Nat} (hm : m < 2 ^ 59) (hx : x.near (2 ^ 59)) (hs : x.size < 2 ^ 59) : EvF G 224 [x.enc, .int .i64 (m : Int)] (.int .i64 (x.cnt m : Nat)) := ⟨flatT1 x.flat m, by
  have h := c277c m hm x 0 0 hx (by omega)
  simp only [Nat.zero_add, Nat.add_zero] at h
  have hf : AV.flatL [x.enc, .func 278 [] [.ptr 0 0, .ptr 1 0]] = false := by simp [AV.flatL, AV.flat]
  exact Ev.run (.subW hf (.en (.r (h)) <| .nil) <| .nil) (by kernel_rfl)⟩
end Go.AI

