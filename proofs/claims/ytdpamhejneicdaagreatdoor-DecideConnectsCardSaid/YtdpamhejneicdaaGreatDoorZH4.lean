/- Contracts: ref03. -/
import Derived.Test.YtdpamhejneicdaaGreatDoorZH3
namespace Go.AI
set_option linter.unusedVariables false
set_option linter.unusedSimpArgs false
open Go
set_option maxRecDepth 100000
set_option maxHeartbeats 4000000

theorem wzr (m : Nat) (h : m < 2 ^ 62) : IntKind.wrap .i64 ((m : Int) + 0) = (m : Int) := wrapEq (by omega) h
theorem ws (m : Nat) (h : m + 1 < 2 ^ 62) : IntKind.wrap .i64 ((m : Int) + 1) = ((m + 1 : Nat) : Int) := wrapEq (by omega) h

theorem f91 (N : Nat) : ∀ x : Tm, x.near N → EvF G 91 [x.enc, .int .i64 (N : Int)] (.bool true)
  | .var i, hx => ⟨flatT1 (Tm.flat _) N, by
    have hi : i ≤ N := hx
    have q : decide ((N : Int) < (i : Int)) = false := decide_eq_false (by omega)
    exact Ev.run (.en (.v q) <| .sub (.nil) <| .nil) (by kernel_rfl)⟩
  | .lam s a, hx => ⟨flatT1 (Tm.flat _) N, by
    have q : decide ((N : Int) < 0) = false := decide_eq_false (by omega)
    have na := hx
    have ha := f91 N a na
    exact Ev.run (.sub (.en (.f (ha)) <| .sub (.nil) <| .nil) <| .nil) (by kernel_rfl)⟩
  | .app a b, hx => ⟨flatT1 (Tm.flat _) N, by
    have q : decide ((N : Int) < 0) = false := decide_eq_false (by omega)
    obtain ⟨na, nb⟩ := hx
    have ha := f91 N a na
    have hb := f91 N b nb
    exact Ev.run (.sub (.en (.f (ha)) <| .sub (.en (.f (hb)) <| .sub (.nil) <| .nil) <| .nil) <| .nil) (by kernel_rfl)⟩
  | .zero, hx => ⟨flatT1 (Tm.flat _) N, by
    have q : decide ((N : Int) < 0) = false := decide_eq_false (by omega)
    exact Ev.run (.sub (.nil) <| .nil) (by kernel_rfl)⟩
  | .succ a, hx => ⟨flatT1 (Tm.flat _) N, by
    have q : decide ((N : Int) < 0) = false := decide_eq_false (by omega)
    have na := hx
    have ha := f91 N a na
    exact Ev.run (.sub (.en (.f (ha)) <| .sub (.nil) <| .nil) <| .nil) (by kernel_rfl)⟩
  | .recN s a b c, hx => ⟨flatT1 (Tm.flat _) N, by
    have q : decide ((N : Int) < 0) = false := decide_eq_false (by omega)
    obtain ⟨na, nb, nc⟩ := hx
    have ha := f91 N a na
    have hb := f91 N b nb
    have hc := f91 N c nc
    exact Ev.run (.sub (.en (.f (ha)) <| .sub (.en (.f (hb)) <| .sub (.en (.f (hc)) <| .sub (.nil) <| .nil) <| .nil) <| .nil) <| .nil) (by kernel_rfl)⟩
  | .nil, hx => ⟨flatT1 (Tm.flat _) N, by
    have q : decide ((N : Int) < 0) = false := decide_eq_false (by omega)
    exact Ev.run (.sub (.nil) <| .nil) (by kernel_rfl)⟩
  | .cons a b, hx => ⟨flatT1 (Tm.flat _) N, by
    have q : decide ((N : Int) < 0) = false := decide_eq_false (by omega)
    obtain ⟨na, nb⟩ := hx
    have ha := f91 N a na
    have hb := f91 N b nb
    exact Ev.run (.sub (.en (.f (ha)) <| .sub (.en (.f (hb)) <| .sub (.nil) <| .nil) <| .nil) <| .nil) (by kernel_rfl)⟩
  | .fold s a b c, hx => ⟨flatT1 (Tm.flat _) N, by
    have q : decide ((N : Int) < 0) = false := decide_eq_false (by omega)
    obtain ⟨na, nb, nc⟩ := hx
    have ha := f91 N a na
    have hb := f91 N b nb
    have hc := f91 N c nc
    exact Ev.run (.sub (.en (.f (ha)) <| .sub (.en (.f (hb)) <| .sub (.en (.f (hc)) <| .sub (.nil) <| .nil) <| .nil) <| .nil) <| .nil) (by kernel_rfl)⟩
  | .pair a b, hx => ⟨flatT1 (Tm.flat _) N, by
    have q : decide ((N : Int) < 0) = false := decide_eq_false (by omega)
    obtain ⟨na, nb⟩ := hx
    have ha := f91 N a na
    have hb := f91 N b nb
    exact Ev.run (.sub (.en (.f (ha)) <| .sub (.en (.f (hb)) <| .sub (.nil) <| .nil) <| .nil) <| .nil) (by kernel_rfl)⟩
  | .fst a, hx => ⟨flatT1 (Tm.flat _) N, by
    have q : decide ((N : Int) < 0) = false := decide_eq_false (by omega)
    have na := hx
    have ha := f91 N a na
    exact Ev.run (.sub (.en (.f (ha)) <| .sub (.nil) <| .nil) <| .nil) (by kernel_rfl)⟩
  | .snd a, hx => ⟨flatT1 (Tm.flat _) N, by
    have q : decide ((N : Int) < 0) = false := decide_eq_false (by omega)
    have na := hx
    have ha := f91 N a na
    exact Ev.run (.sub (.en (.f (ha)) <| .sub (.nil) <| .nil) <| .nil) (by kernel_rfl)⟩
  | .unit, hx => ⟨flatT1 (Tm.flat _) N, by
    have q : decide ((N : Int) < 0) = false := decide_eq_false (by omega)
    exact Ev.run (.sub (.nil) <| .nil) (by kernel_rfl)⟩
theorem f142 (n : Nat) (hn : n < 2 ^ 59) : ∀ (x : Tm) (m : Nat), x.near (2 ^ 59) → m + x.size < 2 ^ 59 → EvF G 142 [x.enc, .int .i64 (m : Int), .int .i64 (n : Int)] (x.up n m).enc
  | .var i, m, hx, hb => ⟨flatTI (Tm.flat _) m n, by
    have hi : i ≤ 2 ^ 59 := hx
    have e : IntKind.wrap .i64 ((i : Int) + (n : Int)) = ((i + n : Nat) : Int) := wrapEq (by omega) (by omega)
    by_cases h : m ≤ i
    · have q : decide ((m : Int) ≤ (i : Int)) = true := decide_eq_true (by omega)
      rw [show (Tm.var i).up n m = .var (i + n) by simp [Tm.up, h]]
      exact Ev.run (.en (.sk 8) <| .en (.v q) <| .en (.w (e)) <| .sub (.nil) <| .nil) (by kernel_rfl)
    · have q : decide ((m : Int) ≤ (i : Int)) = false := decide_eq_false (by omega)
      rw [show (Tm.var i).up n m = .var i by simp [Tm.up, h]]
      exact Ev.run (.en (.sk 8) <| .en (.v q) <| .sub (.nil) <| .nil) (by kernel_rfl)⟩
  | .lam s a, m, hx, hb => ⟨flatTI (Tm.flat _) m n, by
    have na := hx
    simp only [Tm.size] at hb
    have hfl := flat1 (Tm.flat (Tm.lam s a))
    have w0 := wzr m (by omega)
    have w1 := ws m (by omega)
    have h1 := f142 n hn a (m + 1) na (by omega)
    exact Ev.run (.sub (.subF hfl (.nil) <| .en (.w (w1)) <| .en (.f (h1)) <| .sub (.nil) <| .nil) <| .nil) (by kernel_rfl)⟩
  | .app a b, m, hx, hb => ⟨flatTI (Tm.flat _) m n, by
    obtain ⟨na, nb⟩ := hx
    simp only [Tm.size] at hb
    have hfl := flat1 (Tm.flat (Tm.app a b))
    have w0 := wzr m (by omega)
    have w1 := ws m (by omega)
    have ha := f142 n hn a m na (by omega)
    have hb := f142 n hn b m nb (by omega)
    exact Ev.run (.sub (.subF hfl (.nil) <| .en (.w (w0)) <| .en (.f (ha)) <| .sub (.subF hfl (.nil) <| .en (.w (w0)) <| .en (.f (hb)) <| .sub (.nil) <| .nil) <| .nil) <| .nil) (by kernel_rfl)⟩
  | .zero, m, hx, hb => ⟨flatTI (Tm.flat _) m n, by
    exact Ev.run (.sub (.nil) <| .nil) (by kernel_rfl)⟩
  | .succ a, m, hx, hb => ⟨flatTI (Tm.flat _) m n, by
    have na := hx
    simp only [Tm.size] at hb
    have hfl := flat1 (Tm.flat (Tm.succ a))
    have w0 := wzr m (by omega)
    have w1 := ws m (by omega)
    have ha := f142 n hn a m na (by omega)
    exact Ev.run (.sub (.subF hfl (.nil) <| .en (.w (w0)) <| .en (.f (ha)) <| .sub (.nil) <| .nil) <| .nil) (by kernel_rfl)⟩
  | .recN s a b c, m, hx, hb => ⟨flatTI (Tm.flat _) m n, by
    obtain ⟨na, nb, nc⟩ := hx
    simp only [Tm.size] at hb
    have hfl := flat1 (Tm.flat (Tm.recN s a b c))
    have w0 := wzr m (by omega)
    have w1 := ws m (by omega)
    have ha := f142 n hn a m na (by omega)
    have hb := f142 n hn b m nb (by omega)
    have hc := f142 n hn c m nc (by omega)
    exact Ev.run (.sub (.subF hfl (.nil) <| .en (.w (w0)) <| .en (.f (ha)) <| .sub (.subF hfl (.nil) <| .en (.w (w0)) <| .en (.f (hb)) <| .sub (.subF hfl (.nil) <| .en (.w (w0)) <| .en (.f (hc)) <| .sub (.nil) <| .nil) <| .nil) <| .nil) <| .nil) (by kernel_rfl)⟩
  | .nil, m, hx, hb => ⟨flatTI (Tm.flat _) m n, by
    exact Ev.run (.sub (.nil) <| .nil) (by kernel_rfl)⟩
  | .cons a b, m, hx, hb => ⟨flatTI (Tm.flat _) m n, by
    obtain ⟨na, nb⟩ := hx
    simp only [Tm.size] at hb
    have hfl := flat1 (Tm.flat (Tm.cons a b))
    have w0 := wzr m (by omega)
    have w1 := ws m (by omega)
    have ha := f142 n hn a m na (by omega)
    have hb := f142 n hn b m nb (by omega)
    exact Ev.run (.sub (.subF hfl (.nil) <| .en (.w (w0)) <| .en (.f (ha)) <| .sub (.subF hfl (.nil) <| .en (.w (w0)) <| .en (.f (hb)) <| .sub (.nil) <| .nil) <| .nil) <| .nil) (by kernel_rfl)⟩
  | .fold s a b c, m, hx, hb => ⟨flatTI (Tm.flat _) m n, by
    obtain ⟨na, nb, nc⟩ := hx
    simp only [Tm.size] at hb
    have hfl := flat1 (Tm.flat (Tm.fold s a b c))
    have w0 := wzr m (by omega)
    have w1 := ws m (by omega)
    have ha := f142 n hn a m na (by omega)
    have hb := f142 n hn b m nb (by omega)
    have hc := f142 n hn c m nc (by omega)
    exact Ev.run (.sub (.subF hfl (.nil) <| .en (.w (w0)) <| .en (.f (ha)) <| .sub (.subF hfl (.nil) <| .en (.w (w0)) <| .en (.f (hb)) <| .sub (.subF hfl (.nil) <| .en (.w (w0)) <| .en (.f (hc)) <| .sub (.nil) <| .nil) <| .nil) <| .nil) <| .nil) (by kernel_rfl)⟩
  | .pair a b, m, hx, hb => ⟨flatTI (Tm.flat _) m n, by
    obtain ⟨na, nb⟩ := hx
    simp only [Tm.size] at hb
    have hfl := flat1 (Tm.flat (Tm.pair a b))
    have w0 := wzr m (by omega)
    have w1 := ws m (by omega)
    have ha := f142 n hn a m na (by omega)
    have hb := f142 n hn b m nb (by omega)
    exact Ev.run (.sub (.subF hfl (.nil) <| .en (.w (w0)) <| .en (.f (ha)) <| .sub (.subF hfl (.nil) <| .en (.w (w0)) <| .en (.f (hb)) <| .sub (.nil) <| .nil) <| .nil) <| .nil) (by kernel_rfl)⟩
  | .fst a, m, hx, hb => ⟨flatTI (Tm.flat _) m n, by
    have na := hx
    simp only [Tm.size] at hb
    have hfl := flat1 (Tm.flat (Tm.fst a))
    have w0 := wzr m (by omega)
    have w1 := ws m (by omega)
    have ha := f142 n hn a m na (by omega)
    exact Ev.run (.sub (.subF hfl (.nil) <| .en (.w (w0)) <| .en (.f (ha)) <| .sub (.nil) <| .nil) <| .nil) (by kernel_rfl)⟩
  | .snd a, m, hx, hb => ⟨flatTI (Tm.flat _) m n, by
    have na := hx
    simp only [Tm.size] at hb
    have hfl := flat1 (Tm.flat (Tm.snd a))
    have w0 := wzr m (by omega)
    have w1 := ws m (by omega)
    have ha := f142 n hn a m na (by omega)
    exact Ev.run (.sub (.subF hfl (.nil) <| .en (.w (w0)) <| .en (.f (ha)) <| .sub (.nil) <| .nil) <| .nil) (by kernel_rfl)⟩
  | .unit, m, hx, hb => ⟨flatTI (Tm.flat _) m n, by
    exact Ev.run (.sub (.nil) <| .nil) (by kernel_rfl)⟩

theorem f80 {x : Tm} {m n : Nat} (h : x.fit) (hx : x.near (2 ^ 29)) (hm : m ≤ 4096) (hn : n ≤ 4096) : EvF G 80 [x.enc, .int .i64 (m : Int), .int .i64 (n : Int)] (.tuple [(x.up n m).enc, .int .i64 0]) := ⟨flatTI x.flat m n, by
  have hs := h.2
  have h1 := f75 h
  have h2 := f91 536870912 x hx
  have h3 := f142 n (by omega) x m (Tm.near_mono (by decide) x hx) (by omega)
  have h4 := f132 (x.up n m)
  have q1 : decide ((m : Int) < 0) = false := decide_eq_false (by omega)
  have q2 : decide ((4096 : Int) < (m : Int)) = false := decide_eq_false (by omega)
  have q3 : decide ((n : Int) < 0) = false := decide_eq_false (by omega)
  have q4 : decide ((4096 : Int) < (n : Int)) = false := decide_eq_false (by omega)
  exact Ev.run (.en (.f (h1)) <| .en (.sk 8) <| .en (.sk 8) <| .en (.v q2) <| .en (.sk 8) <| .en (.v q4) <| .en (.f (h2)) <| .en (.f (h3)) <| .en (.f (h4)) <| .nil) (by kernel_rfl)⟩
theorem f156 : ∀ (x : Tm) (m : Nat), m + x.size < 2 ^ 59 → EvF G 156 [x.enc, .int .i64 (m : Int)] (.int .i64 (x.cnt m : Nat))
  | .var i, m, hb => ⟨flatT1 (Tm.flat _) m, by
    by_cases h : i = m
    · have q : ((i : Int) == (m : Int)) = true := by simp [h]
      rw [show (Tm.var i).cnt m = 1 by simp [Tm.cnt, h]]
      exact Ev.run (.en (.sk 8) <| .en (.v q) <| .sub (.nil) <| .nil) (by kernel_rfl)
    · have q : ((i : Int) == (m : Int)) = false := by simp; omega
      rw [show (Tm.var i).cnt m = 0 by simp [Tm.cnt, h]]
      exact Ev.run (.en (.sk 8) <| .en (.v q) <| .sub (.nil) <| .nil) (by kernel_rfl)⟩
  | .lam s a, m, hb => ⟨flatT1 (Tm.flat _) m, by
    simp only [Tm.size] at hb
    have hfl := flat1 (Tm.flat (Tm.lam s a))
    have w0 := wzr m (by omega)
    have w1 := ws m (by omega)
    have k1 := Tm.cnt_le a (m + 1)
    have h1 := f156 a (m + 1) (by omega)
    have e0 : IntKind.wrap .i64 (0 + ((a.cnt (m + 1) : Nat) : Int)) = ((a.cnt (m + 1) : Nat) : Int) := wrapEq (by omega) (by omega)
    exact Ev.run (.sub (.subF hfl (.nil) <| .en (.w (w1)) <| .en (.f (h1)) <| .en (.w (e0)) <| .sub (.nil) <| .nil) <| .nil) (by kernel_rfl)⟩
  | .app a b, m, hb => ⟨flatT1 (Tm.flat _) m, by
    simp only [Tm.size] at hb
    have hfl := flat1 (Tm.flat (Tm.app a b))
    have w0 := wzr m (by omega)
    have w1 := ws m (by omega)
    have ka := Tm.cnt_le a m
    have kb := Tm.cnt_le b m
    have ha := f156 a m (by omega)
    have hb := f156 b m (by omega)
    have e0 : IntKind.wrap .i64 (0 + ((a.cnt m : Nat) : Int)) = ((a.cnt m : Nat) : Int) := wrapEq (by omega) (by omega)
    have e1 : IntKind.wrap .i64 (((a.cnt m : Nat) : Int) + ((b.cnt m : Nat) : Int)) = ((a.cnt m + b.cnt m : Nat) : Int) := wrapEq (by omega) (by omega)
    exact Ev.run (.sub (.subF hfl (.nil) <| .en (.w (w0)) <| .en (.f (ha)) <| .en (.w (e0)) <| .sub (.subF hfl (.nil) <| .en (.w (w0)) <| .en (.f (hb)) <| .en (.w (e1)) <| .sub (.nil) <| .nil) <| .nil) <| .nil) (by kernel_rfl)⟩
  | .zero, m, hb => ⟨flatT1 (Tm.flat _) m, by
    exact Ev.run (.sub (.nil) <| .nil) (by kernel_rfl)⟩
  | .succ a, m, hb => ⟨flatT1 (Tm.flat _) m, by
    simp only [Tm.size] at hb
    have hfl := flat1 (Tm.flat (Tm.succ a))
    have w0 := wzr m (by omega)
    have w1 := ws m (by omega)
    have ka := Tm.cnt_le a m
    have ha := f156 a m (by omega)
    have e0 : IntKind.wrap .i64 (0 + ((a.cnt m : Nat) : Int)) = ((a.cnt m : Nat) : Int) := wrapEq (by omega) (by omega)
    exact Ev.run (.sub (.subF hfl (.nil) <| .en (.w (w0)) <| .en (.f (ha)) <| .en (.w (e0)) <| .sub (.nil) <| .nil) <| .nil) (by kernel_rfl)⟩
  | .recN s a b c, m, hb => ⟨flatT1 (Tm.flat _) m, by
    simp only [Tm.size] at hb
    have hfl := flat1 (Tm.flat (Tm.recN s a b c))
    have w0 := wzr m (by omega)
    have w1 := ws m (by omega)
    have ka := Tm.cnt_le a m
    have kb := Tm.cnt_le b m
    have kc := Tm.cnt_le c m
    have ha := f156 a m (by omega)
    have hb := f156 b m (by omega)
    have hc := f156 c m (by omega)
    have e0 : IntKind.wrap .i64 (0 + ((a.cnt m : Nat) : Int)) = ((a.cnt m : Nat) : Int) := wrapEq (by omega) (by omega)
    have e1 : IntKind.wrap .i64 (((a.cnt m : Nat) : Int) + ((b.cnt m : Nat) : Int)) = ((a.cnt m + b.cnt m : Nat) : Int) := wrapEq (by omega) (by omega)
    have e2 : IntKind.wrap .i64 (((a.cnt m + b.cnt m : Nat) : Int) + ((c.cnt m : Nat) : Int)) = ((a.cnt m + b.cnt m + c.cnt m : Nat) : Int) := wrapEq (by omega) (by omega)
    exact Ev.run (.sub (.subF hfl (.nil) <| .en (.w (w0)) <| .en (.f (ha)) <| .en (.w (e0)) <| .sub (.subF hfl (.nil) <| .en (.w (w0)) <| .en (.f (hb)) <| .en (.w (e1)) <| .sub (.subF hfl (.nil) <| .en (.w (w0)) <| .en (.f (hc)) <| .en (.w (e2)) <| .sub (.nil) <| .nil) <| .nil) <| .nil) <| .nil) (by kernel_rfl)⟩
  | .nil, m, hb => ⟨flatT1 (Tm.flat _) m, by
    exact Ev.run (.sub (.nil) <| .nil) (by kernel_rfl)⟩
  | .cons a b, m, hb => ⟨flatT1 (Tm.flat _) m, by
    simp only [Tm.size] at hb
    have hfl := flat1 (Tm.flat (Tm.cons a b))
    have w0 := wzr m (by omega)
    have w1 := ws m (by omega)
    have ka := Tm.cnt_le a m
    have kb := Tm.cnt_le b m
    have ha := f156 a m (by omega)
    have hb := f156 b m (by omega)
    have e0 : IntKind.wrap .i64 (0 + ((a.cnt m : Nat) : Int)) = ((a.cnt m : Nat) : Int) := wrapEq (by omega) (by omega)
    have e1 : IntKind.wrap .i64 (((a.cnt m : Nat) : Int) + ((b.cnt m : Nat) : Int)) = ((a.cnt m + b.cnt m : Nat) : Int) := wrapEq (by omega) (by omega)
    exact Ev.run (.sub (.subF hfl (.nil) <| .en (.w (w0)) <| .en (.f (ha)) <| .en (.w (e0)) <| .sub (.subF hfl (.nil) <| .en (.w (w0)) <| .en (.f (hb)) <| .en (.w (e1)) <| .sub (.nil) <| .nil) <| .nil) <| .nil) (by kernel_rfl)⟩
  | .fold s a b c, m, hb => ⟨flatT1 (Tm.flat _) m, by
    simp only [Tm.size] at hb
    have hfl := flat1 (Tm.flat (Tm.fold s a b c))
    have w0 := wzr m (by omega)
    have w1 := ws m (by omega)
    have ka := Tm.cnt_le a m
    have kb := Tm.cnt_le b m
    have kc := Tm.cnt_le c m
    have ha := f156 a m (by omega)
    have hb := f156 b m (by omega)
    have hc := f156 c m (by omega)
    have e0 : IntKind.wrap .i64 (0 + ((a.cnt m : Nat) : Int)) = ((a.cnt m : Nat) : Int) := wrapEq (by omega) (by omega)
    have e1 : IntKind.wrap .i64 (((a.cnt m : Nat) : Int) + ((b.cnt m : Nat) : Int)) = ((a.cnt m + b.cnt m : Nat) : Int) := wrapEq (by omega) (by omega)
    have e2 : IntKind.wrap .i64 (((a.cnt m + b.cnt m : Nat) : Int) + ((c.cnt m : Nat) : Int)) = ((a.cnt m + b.cnt m + c.cnt m : Nat) : Int) := wrapEq (by omega) (by omega)
    exact Ev.run (.sub (.subF hfl (.nil) <| .en (.w (w0)) <| .en (.f (ha)) <| .en (.w (e0)) <| .sub (.subF hfl (.nil) <| .en (.w (w0)) <| .en (.f (hb)) <| .en (.w (e1)) <| .sub (.subF hfl (.nil) <| .en (.w (w0)) <| .en (.f (hc)) <| .en (.w (e2)) <| .sub (.nil) <| .nil) <| .nil) <| .nil) <| .nil) (by kernel_rfl)⟩
  | .pair a b, m, hb => ⟨flatT1 (Tm.flat _) m, by
    simp only [Tm.size] at hb
    have hfl := flat1 (Tm.flat (Tm.pair a b))
    have w0 := wzr m (by omega)
    have w1 := ws m (by omega)
    have ka := Tm.cnt_le a m
    have kb := Tm.cnt_le b m
    have ha := f156 a m (by omega)
    have hb := f156 b m (by omega)
    have e0 : IntKind.wrap .i64 (0 + ((a.cnt m : Nat) : Int)) = ((a.cnt m : Nat) : Int) := wrapEq (by omega) (by omega)
    have e1 : IntKind.wrap .i64 (((a.cnt m : Nat) : Int) + ((b.cnt m : Nat) : Int)) = ((a.cnt m + b.cnt m : Nat) : Int) := wrapEq (by omega) (by omega)
    exact Ev.run (.sub (.subF hfl (.nil) <| .en (.w (w0)) <| .en (.f (ha)) <| .en (.w (e0)) <| .sub (.subF hfl (.nil) <| .en (.w (w0)) <| .en (.f (hb)) <| .en (.w (e1)) <| .sub (.nil) <| .nil) <| .nil) <| .nil) (by kernel_rfl)⟩
  | .fst a, m, hb => ⟨flatT1 (Tm.flat _) m, by
    simp only [Tm.size] at hb
    have hfl := flat1 (Tm.flat (Tm.fst a))
    have w0 := wzr m (by omega)
    have w1 := ws m (by omega)
    have ka := Tm.cnt_le a m
    have ha := f156 a m (by omega)
    have e0 : IntKind.wrap .i64 (0 + ((a.cnt m : Nat) : Int)) = ((a.cnt m : Nat) : Int) := wrapEq (by omega) (by omega)
    exact Ev.run (.sub (.subF hfl (.nil) <| .en (.w (w0)) <| .en (.f (ha)) <| .en (.w (e0)) <| .sub (.nil) <| .nil) <| .nil) (by kernel_rfl)⟩
  | .snd a, m, hb => ⟨flatT1 (Tm.flat _) m, by
    simp only [Tm.size] at hb
    have hfl := flat1 (Tm.flat (Tm.snd a))
    have w0 := wzr m (by omega)
    have w1 := ws m (by omega)
    have ka := Tm.cnt_le a m
    have ha := f156 a m (by omega)
    have e0 : IntKind.wrap .i64 (0 + ((a.cnt m : Nat) : Int)) = ((a.cnt m : Nat) : Int) := wrapEq (by omega) (by omega)
    exact Ev.run (.sub (.subF hfl (.nil) <| .en (.w (w0)) <| .en (.f (ha)) <| .en (.w (e0)) <| .sub (.nil) <| .nil) <| .nil) (by kernel_rfl)⟩
  | .unit, m, hb => ⟨flatT1 (Tm.flat _) m, by
    exact Ev.run (.sub (.nil) <| .nil) (by kernel_rfl)⟩
theorem f158 (m : Nat) (u : Tm) (hu : u.near (2 ^ 59)) (hus : u.size < 2 ^ 58) : ∀ (x : Tm) (d : Nat), x.near (2 ^ 59) → m + d + x.size < 2 ^ 58 → EvF G 158 [x.enc, .int .i64 (m : Int), .int .i64 (d : Int), u.enc] (x.put u (m + d)).enc
  | .var i, d, hx, hb => ⟨flatTIIT (Tm.flat _) m d u.flat, by
    have hi : i ≤ 2 ^ 59 := hx
    have e : IntKind.wrap .i64 ((m : Int) + (d : Int)) = ((m + d : Nat) : Int) := wrapEq (by omega) (by omega)
    by_cases h : i = m + d
    · have q : ((i : Int) == ((m + d : Nat) : Int)) = true := by simp; omega
      rw [show (Tm.var i).put u (m + d) = u.up (m + d) 0 by simp [Tm.put, h]]
      have hl := f142 (m + d) (by omega) u 0 hu (by omega)
      exact Ev.run (.en (.w (e)) <| .en (.v q) <| .en (.w (e)) <| .en (.f (hl)) <| .nil) (by kernel_rfl)
    · have q : ((i : Int) == ((m + d : Nat) : Int)) = false := by simp; omega
      by_cases h2 : m + d < i
      · have q2 : decide (((m + d : Nat) : Int) < (i : Int)) = true := decide_eq_true (by omega)
        have e3 : IntKind.wrap .i64 ((i : Int) - 1) = ((i - 1 : Nat) : Int) := wrapEq (by omega) (by omega)
        rw [show (Tm.var i).put u (m + d) = .var (i - 1) by simp [Tm.put, h, h2]]
        exact Ev.run (.en (.w (e)) <| .en (.v q) <| .en (.w (e)) <| .en (.v q2) <| .en (.w (e3)) <| .en (.f (f29 (i - 1))) <| .nil) (by kernel_rfl)
      · have q2 : decide (((m + d : Nat) : Int) < (i : Int)) = false := decide_eq_false (by omega)
        rw [show (Tm.var i).put u (m + d) = .var i by simp [Tm.put, h, h2]]
        exact Ev.run (.en (.w (e)) <| .en (.v q) <| .en (.w (e)) <| .en (.v q2) <| .nil) (by kernel_rfl)⟩
  | .lam s a, d, hx, hb => ⟨flatTIIT (Tm.flat _) m d u.flat, by
    have na := hx
    simp only [Tm.size] at hb
    have hfl := flat1 (Tm.flat (Tm.lam s a))
    have w0 := wzr d (by omega)
    have w1 := ws d (by omega)
    have h1 := f158 m u hu hus a (d + 1) na (by omega)
    exact Ev.run (.sub (.subF hfl (.nil) <| .en (.w (w1)) <| .en (.f (h1)) <| .sub (.nil) <| .nil) <| .nil) (by kernel_rfl)⟩
  | .app a b, d, hx, hb => ⟨flatTIIT (Tm.flat _) m d u.flat, by
    obtain ⟨na, nb⟩ := hx
    simp only [Tm.size] at hb
    have hfl := flat1 (Tm.flat (Tm.app a b))
    have w0 := wzr d (by omega)
    have w1 := ws d (by omega)
    have ha := f158 m u hu hus a d na (by omega)
    have hb := f158 m u hu hus b d nb (by omega)
    exact Ev.run (.sub (.subF hfl (.nil) <| .en (.w (w0)) <| .en (.f (ha)) <| .sub (.subF hfl (.nil) <| .en (.w (w0)) <| .en (.f (hb)) <| .sub (.nil) <| .nil) <| .nil) <| .nil) (by kernel_rfl)⟩
  | .zero, d, hx, hb => ⟨flatTIIT (Tm.flat _) m d u.flat, by
    exact Ev.run (.sub (.nil) <| .nil) (by kernel_rfl)⟩
  | .succ a, d, hx, hb => ⟨flatTIIT (Tm.flat _) m d u.flat, by
    have na := hx
    simp only [Tm.size] at hb
    have hfl := flat1 (Tm.flat (Tm.succ a))
    have w0 := wzr d (by omega)
    have w1 := ws d (by omega)
    have ha := f158 m u hu hus a d na (by omega)
    exact Ev.run (.sub (.subF hfl (.nil) <| .en (.w (w0)) <| .en (.f (ha)) <| .sub (.nil) <| .nil) <| .nil) (by kernel_rfl)⟩
  | .recN s a b c, d, hx, hb => ⟨flatTIIT (Tm.flat _) m d u.flat, by
    obtain ⟨na, nb, nc⟩ := hx
    simp only [Tm.size] at hb
    have hfl := flat1 (Tm.flat (Tm.recN s a b c))
    have w0 := wzr d (by omega)
    have w1 := ws d (by omega)
    have ha := f158 m u hu hus a d na (by omega)
    have hb := f158 m u hu hus b d nb (by omega)
    have hc := f158 m u hu hus c d nc (by omega)
    exact Ev.run (.sub (.subF hfl (.nil) <| .en (.w (w0)) <| .en (.f (ha)) <| .sub (.subF hfl (.nil) <| .en (.w (w0)) <| .en (.f (hb)) <| .sub (.subF hfl (.nil) <| .en (.w (w0)) <| .en (.f (hc)) <| .sub (.nil) <| .nil) <| .nil) <| .nil) <| .nil) (by kernel_rfl)⟩
  | .nil, d, hx, hb => ⟨flatTIIT (Tm.flat _) m d u.flat, by
    exact Ev.run (.sub (.nil) <| .nil) (by kernel_rfl)⟩
  | .cons a b, d, hx, hb => ⟨flatTIIT (Tm.flat _) m d u.flat, by
    obtain ⟨na, nb⟩ := hx
    simp only [Tm.size] at hb
    have hfl := flat1 (Tm.flat (Tm.cons a b))
    have w0 := wzr d (by omega)
    have w1 := ws d (by omega)
    have ha := f158 m u hu hus a d na (by omega)
    have hb := f158 m u hu hus b d nb (by omega)
    exact Ev.run (.sub (.subF hfl (.nil) <| .en (.w (w0)) <| .en (.f (ha)) <| .sub (.subF hfl (.nil) <| .en (.w (w0)) <| .en (.f (hb)) <| .sub (.nil) <| .nil) <| .nil) <| .nil) (by kernel_rfl)⟩
  | .fold s a b c, d, hx, hb => ⟨flatTIIT (Tm.flat _) m d u.flat, by
    obtain ⟨na, nb, nc⟩ := hx
    simp only [Tm.size] at hb
    have hfl := flat1 (Tm.flat (Tm.fold s a b c))
    have w0 := wzr d (by omega)
    have w1 := ws d (by omega)
    have ha := f158 m u hu hus a d na (by omega)
    have hb := f158 m u hu hus b d nb (by omega)
    have hc := f158 m u hu hus c d nc (by omega)
    exact Ev.run (.sub (.subF hfl (.nil) <| .en (.w (w0)) <| .en (.f (ha)) <| .sub (.subF hfl (.nil) <| .en (.w (w0)) <| .en (.f (hb)) <| .sub (.subF hfl (.nil) <| .en (.w (w0)) <| .en (.f (hc)) <| .sub (.nil) <| .nil) <| .nil) <| .nil) <| .nil) (by kernel_rfl)⟩
  | .pair a b, d, hx, hb => ⟨flatTIIT (Tm.flat _) m d u.flat, by
    obtain ⟨na, nb⟩ := hx
    simp only [Tm.size] at hb
    have hfl := flat1 (Tm.flat (Tm.pair a b))
    have w0 := wzr d (by omega)
    have w1 := ws d (by omega)
    have ha := f158 m u hu hus a d na (by omega)
    have hb := f158 m u hu hus b d nb (by omega)
    exact Ev.run (.sub (.subF hfl (.nil) <| .en (.w (w0)) <| .en (.f (ha)) <| .sub (.subF hfl (.nil) <| .en (.w (w0)) <| .en (.f (hb)) <| .sub (.nil) <| .nil) <| .nil) <| .nil) (by kernel_rfl)⟩
  | .fst a, d, hx, hb => ⟨flatTIIT (Tm.flat _) m d u.flat, by
    have na := hx
    simp only [Tm.size] at hb
    have hfl := flat1 (Tm.flat (Tm.fst a))
    have w0 := wzr d (by omega)
    have w1 := ws d (by omega)
    have ha := f158 m u hu hus a d na (by omega)
    exact Ev.run (.sub (.subF hfl (.nil) <| .en (.w (w0)) <| .en (.f (ha)) <| .sub (.nil) <| .nil) <| .nil) (by kernel_rfl)⟩
  | .snd a, d, hx, hb => ⟨flatTIIT (Tm.flat _) m d u.flat, by
    have na := hx
    simp only [Tm.size] at hb
    have hfl := flat1 (Tm.flat (Tm.snd a))
    have w0 := wzr d (by omega)
    have w1 := ws d (by omega)
    have ha := f158 m u hu hus a d na (by omega)
    exact Ev.run (.sub (.subF hfl (.nil) <| .en (.w (w0)) <| .en (.f (ha)) <| .sub (.nil) <| .nil) <| .nil) (by kernel_rfl)⟩
  | .unit, d, hx, hb => ⟨flatTIIT (Tm.flat _) m d u.flat, by
    exact Ev.run (.sub (.nil) <| .nil) (by kernel_rfl)⟩
end Go.AI

