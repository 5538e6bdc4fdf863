/- Contracts: terms. -/
import Derived.Test.YtdpamhejneicdaaGreatDoorZH1
namespace Go.AI
set_option linter.unusedVariables false
set_option linter.unusedSimpArgs false
open Go
set_option maxRecDepth 100000
set_option maxHeartbeats 4000000

theorem f211 (x : Tm) : EvF G 211 [.int .i64 x.k] (.int .i64 (x.args.length : Nat)) := ⟨rfl, by cases x <;> exact Ev.run (.nil) (by kernel_rfl)⟩
theorem f319 (x : Tm) : EvF G 319 [.int .i64 x.k] (.tuple [.int .i64 (x.args.length : Nat), .bool true]) := ⟨rfl, by cases x <;> exact Ev.run (.nil) (by kernel_rfl)⟩
theorem f204n : EvF G 204 [noTy] (.bool true) := ⟨rfl, by exact Ev.run (.nil) (by kernel_rfl)⟩
theorem f318n : EvF G 318 [noTy] (.bool true) := ⟨rfl, by exact Ev.run (.nil) (by kernel_rfl)⟩
theorem f267 (n : Nat) : EvF G 267 [.int .i64 (n : Int)] (Tm.var n).enc := ⟨rfl, by exact Ev.run (.nil) (by kernel_rfl)⟩
theorem f29 (n : Nat) : EvF G 29 [.int .i64 (n : Int)] (Tm.var n).enc := ⟨rfl, by exact Ev.run (.nil) (by kernel_rfl)⟩
theorem f132 : ∀ x : Tm, EvF G 132 [x.enc] x.enc
  | .var i => ⟨flat1 (Tm.flat _), by
    exact Ev.run (.sub (.nil) <| .en (.f (f106n)) <| .nil) (by kernel_rfl)⟩
  | .lam s a => ⟨flat1 (Tm.flat _), by
    have ha := f132 a
    exact Ev.run (.sub (.en (.f (ha)) <| .sub (.nil) <| .nil) <| .en (.f (f106 s)) <| .nil) (by kernel_rfl)⟩
  | .app a b => ⟨flat1 (Tm.flat _), by
    have ha := f132 a
    have hb := f132 b
    exact Ev.run (.sub (.en (.f (ha)) <| .sub (.en (.f (hb)) <| .sub (.nil) <| .nil) <| .nil) <| .en (.f (f106n)) <| .nil) (by kernel_rfl)⟩
  | .zero => ⟨flat1 (Tm.flat _), by
    exact Ev.run (.sub (.nil) <| .en (.f (f106n)) <| .nil) (by kernel_rfl)⟩
  | .succ a => ⟨flat1 (Tm.flat _), by
    have ha := f132 a
    exact Ev.run (.sub (.en (.f (ha)) <| .sub (.nil) <| .nil) <| .en (.f (f106n)) <| .nil) (by kernel_rfl)⟩
  | .recN s a b c => ⟨flat1 (Tm.flat _), by
    have ha := f132 a
    have hb := f132 b
    have hc := f132 c
    exact Ev.run (.sub (.en (.f (ha)) <| .sub (.en (.f (hb)) <| .sub (.en (.f (hc)) <| .sub (.nil) <| .nil) <| .nil) <| .nil) <| .en (.f (f106 s)) <| .nil) (by kernel_rfl)⟩
  | .nil => ⟨flat1 (Tm.flat _), by
    exact Ev.run (.sub (.nil) <| .en (.f (f106n)) <| .nil) (by kernel_rfl)⟩
  | .cons a b => ⟨flat1 (Tm.flat _), by
    have ha := f132 a
    have hb := f132 b
    exact Ev.run (.sub (.en (.f (ha)) <| .sub (.en (.f (hb)) <| .sub (.nil) <| .nil) <| .nil) <| .en (.f (f106n)) <| .nil) (by kernel_rfl)⟩
  | .fold s a b c => ⟨flat1 (Tm.flat _), by
    have ha := f132 a
    have hb := f132 b
    have hc := f132 c
    exact Ev.run (.sub (.en (.f (ha)) <| .sub (.en (.f (hb)) <| .sub (.en (.f (hc)) <| .sub (.nil) <| .nil) <| .nil) <| .nil) <| .en (.f (f106 s)) <| .nil) (by kernel_rfl)⟩
  | .pair a b => ⟨flat1 (Tm.flat _), by
    have ha := f132 a
    have hb := f132 b
    exact Ev.run (.sub (.en (.f (ha)) <| .sub (.en (.f (hb)) <| .sub (.nil) <| .nil) <| .nil) <| .en (.f (f106n)) <| .nil) (by kernel_rfl)⟩
  | .fst a => ⟨flat1 (Tm.flat _), by
    have ha := f132 a
    exact Ev.run (.sub (.en (.f (ha)) <| .sub (.nil) <| .nil) <| .en (.f (f106n)) <| .nil) (by kernel_rfl)⟩
  | .snd a => ⟨flat1 (Tm.flat _), by
    have ha := f132 a
    exact Ev.run (.sub (.en (.f (ha)) <| .sub (.nil) <| .nil) <| .en (.f (f106n)) <| .nil) (by kernel_rfl)⟩
  | .unit => ⟨flat1 (Tm.flat _), by
    exact Ev.run (.sub (.nil) <| .en (.f (f106n)) <| .nil) (by kernel_rfl)⟩
theorem f236 : ∀ x : Tm, EvF G 236 [x.enc] x.enc
  | .var i => ⟨flat1 (Tm.flat _), by
    exact Ev.run (.en (.f (f171n)) <| .sub (.nil) <| .nil) (by kernel_rfl)⟩
  | .lam s a => ⟨flat1 (Tm.flat _), by
    have ha := f236 a
    exact Ev.run (.en (.f (f171 s)) <| .sub (.en (.f (ha)) <| .sub (.nil) <| .nil) <| .nil) (by kernel_rfl)⟩
  | .app a b => ⟨flat1 (Tm.flat _), by
    have ha := f236 a
    have hb := f236 b
    exact Ev.run (.en (.f (f171n)) <| .sub (.en (.f (ha)) <| .sub (.en (.f (hb)) <| .sub (.nil) <| .nil) <| .nil) <| .nil) (by kernel_rfl)⟩
  | .zero => ⟨flat1 (Tm.flat _), by
    exact Ev.run (.en (.f (f171n)) <| .sub (.nil) <| .nil) (by kernel_rfl)⟩
  | .succ a => ⟨flat1 (Tm.flat _), by
    have ha := f236 a
    exact Ev.run (.en (.f (f171n)) <| .sub (.en (.f (ha)) <| .sub (.nil) <| .nil) <| .nil) (by kernel_rfl)⟩
  | .recN s a b c => ⟨flat1 (Tm.flat _), by
    have ha := f236 a
    have hb := f236 b
    have hc := f236 c
    exact Ev.run (.en (.f (f171 s)) <| .sub (.en (.f (ha)) <| .sub (.en (.f (hb)) <| .sub (.en (.f (hc)) <| .sub (.nil) <| .nil) <| .nil) <| .nil) <| .nil) (by kernel_rfl)⟩
  | .nil => ⟨flat1 (Tm.flat _), by
    exact Ev.run (.en (.f (f171n)) <| .sub (.nil) <| .nil) (by kernel_rfl)⟩
  | .cons a b => ⟨flat1 (Tm.flat _), by
    have ha := f236 a
    have hb := f236 b
    exact Ev.run (.en (.f (f171n)) <| .sub (.en (.f (ha)) <| .sub (.en (.f (hb)) <| .sub (.nil) <| .nil) <| .nil) <| .nil) (by kernel_rfl)⟩
  | .fold s a b c => ⟨flat1 (Tm.flat _), by
    have ha := f236 a
    have hb := f236 b
    have hc := f236 c
    exact Ev.run (.en (.f (f171 s)) <| .sub (.en (.f (ha)) <| .sub (.en (.f (hb)) <| .sub (.en (.f (hc)) <| .sub (.nil) <| .nil) <| .nil) <| .nil) <| .nil) (by kernel_rfl)⟩
  | .pair a b => ⟨flat1 (Tm.flat _), by
    have ha := f236 a
    have hb := f236 b
    exact Ev.run (.en (.f (f171n)) <| .sub (.en (.f (ha)) <| .sub (.en (.f (hb)) <| .sub (.nil) <| .nil) <| .nil) <| .nil) (by kernel_rfl)⟩
  | .fst a => ⟨flat1 (Tm.flat _), by
    have ha := f236 a
    exact Ev.run (.en (.f (f171n)) <| .sub (.en (.f (ha)) <| .sub (.nil) <| .nil) <| .nil) (by kernel_rfl)⟩
  | .snd a => ⟨flat1 (Tm.flat _), by
    have ha := f236 a
    exact Ev.run (.en (.f (f171n)) <| .sub (.en (.f (ha)) <| .sub (.nil) <| .nil) <| .nil) (by kernel_rfl)⟩
  | .unit => ⟨flat1 (Tm.flat _), by
    exact Ev.run (.en (.f (f171n)) <| .sub (.nil) <| .nil) (by kernel_rfl)⟩
theorem f77 : ∀ x : Tm, x.size < 2 ^ 60 → EvF G 77 [x.enc] (.int .i64 x.size)
  | .var i, h => ⟨flat1 (Tm.flat _), by
    exact Ev.run (.sub (.nil) <| .nil) (by kernel_rfl)⟩
  | .lam s a, h => ⟨flat1 (Tm.flat _), by
    simp only [Tm.size] at h
    have ha := f77 a (by omega)
    have e0 : IntKind.wrap .i64 (1 + (a.size : Int)) = ((a.size + 1 : Nat) : Int) := wrapEq (by omega) (by omega)
    exact Ev.run (.sub (.en (.f (ha)) <| .en (.w (e0)) <| .sub (.nil) <| .nil) <| .nil) (by kernel_rfl)⟩
  | .app a b, h => ⟨flat1 (Tm.flat _), by
    simp only [Tm.size] at h
    have ha := f77 a (by omega)
    have hb := f77 b (by omega)
    have e0 : IntKind.wrap .i64 (1 + (a.size : Int)) = ((a.size + 1 : Nat) : Int) := wrapEq (by omega) (by omega)
    have e1 : IntKind.wrap .i64 (((a.size + 1 : Nat) : Int) + (b.size : Int)) = ((a.size + b.size + 1 : Nat) : Int) := wrapEq (by omega) (by omega)
    exact Ev.run (.sub (.en (.f (ha)) <| .en (.w (e0)) <| .sub (.en (.f (hb)) <| .en (.w (e1)) <| .sub (.nil) <| .nil) <| .nil) <| .nil) (by kernel_rfl)⟩
  | .zero, h => ⟨flat1 (Tm.flat _), by
    exact Ev.run (.sub (.nil) <| .nil) (by kernel_rfl)⟩
  | .succ a, h => ⟨flat1 (Tm.flat _), by
    simp only [Tm.size] at h
    have ha := f77 a (by omega)
    have e0 : IntKind.wrap .i64 (1 + (a.size : Int)) = ((a.size + 1 : Nat) : Int) := wrapEq (by omega) (by omega)
    exact Ev.run (.sub (.en (.f (ha)) <| .en (.w (e0)) <| .sub (.nil) <| .nil) <| .nil) (by kernel_rfl)⟩
  | .recN s a b c, h => ⟨flat1 (Tm.flat _), by
    simp only [Tm.size] at h
    have ha := f77 a (by omega)
    have hb := f77 b (by omega)
    have hc := f77 c (by omega)
    have e0 : IntKind.wrap .i64 (1 + (a.size : Int)) = ((a.size + 1 : Nat) : Int) := wrapEq (by omega) (by omega)
    have e1 : IntKind.wrap .i64 (((a.size + 1 : Nat) : Int) + (b.size : Int)) = ((a.size + b.size + 1 : Nat) : Int) := wrapEq (by omega) (by omega)
    have e2 : IntKind.wrap .i64 (((a.size + b.size + 1 : Nat) : Int) + (c.size : Int)) = ((a.size + b.size + c.size + 1 : Nat) : Int) := wrapEq (by omega) (by omega)
    exact Ev.run (.sub (.en (.f (ha)) <| .en (.w (e0)) <| .sub (.en (.f (hb)) <| .en (.w (e1)) <| .sub (.en (.f (hc)) <| .en (.w (e2)) <| .sub (.nil) <| .nil) <| .nil) <| .nil) <| .nil) (by kernel_rfl)⟩
  | .nil, h => ⟨flat1 (Tm.flat _), by
    exact Ev.run (.sub (.nil) <| .nil) (by kernel_rfl)⟩
  | .cons a b, h => ⟨flat1 (Tm.flat _), by
    simp only [Tm.size] at h
    have ha := f77 a (by omega)
    have hb := f77 b (by omega)
    have e0 : IntKind.wrap .i64 (1 + (a.size : Int)) = ((a.size + 1 : Nat) : Int) := wrapEq (by omega) (by omega)
    have e1 : IntKind.wrap .i64 (((a.size + 1 : Nat) : Int) + (b.size : Int)) = ((a.size + b.size + 1 : Nat) : Int) := wrapEq (by omega) (by omega)
    exact Ev.run (.sub (.en (.f (ha)) <| .en (.w (e0)) <| .sub (.en (.f (hb)) <| .en (.w (e1)) <| .sub (.nil) <| .nil) <| .nil) <| .nil) (by kernel_rfl)⟩
  | .fold s a b c, h => ⟨flat1 (Tm.flat _), by
    simp only [Tm.size] at h
    have ha := f77 a (by omega)
    have hb := f77 b (by omega)
    have hc := f77 c (by omega)
    have e0 : IntKind.wrap .i64 (1 + (a.size : Int)) = ((a.size + 1 : Nat) : Int) := wrapEq (by omega) (by omega)
    have e1 : IntKind.wrap .i64 (((a.size + 1 : Nat) : Int) + (b.size : Int)) = ((a.size + b.size + 1 : Nat) : Int) := wrapEq (by omega) (by omega)
    have e2 : IntKind.wrap .i64 (((a.size + b.size + 1 : Nat) : Int) + (c.size : Int)) = ((a.size + b.size + c.size + 1 : Nat) : Int) := wrapEq (by omega) (by omega)
    exact Ev.run (.sub (.en (.f (ha)) <| .en (.w (e0)) <| .sub (.en (.f (hb)) <| .en (.w (e1)) <| .sub (.en (.f (hc)) <| .en (.w (e2)) <| .sub (.nil) <| .nil) <| .nil) <| .nil) <| .nil) (by kernel_rfl)⟩
  | .pair a b, h => ⟨flat1 (Tm.flat _), by
    simp only [Tm.size] at h
    have ha := f77 a (by omega)
    have hb := f77 b (by omega)
    have e0 : IntKind.wrap .i64 (1 + (a.size : Int)) = ((a.size + 1 : Nat) : Int) := wrapEq (by omega) (by omega)
    have e1 : IntKind.wrap .i64 (((a.size + 1 : Nat) : Int) + (b.size : Int)) = ((a.size + b.size + 1 : Nat) : Int) := wrapEq (by omega) (by omega)
    exact Ev.run (.sub (.en (.f (ha)) <| .en (.w (e0)) <| .sub (.en (.f (hb)) <| .en (.w (e1)) <| .sub (.nil) <| .nil) <| .nil) <| .nil) (by kernel_rfl)⟩
  | .fst a, h => ⟨flat1 (Tm.flat _), by
    simp only [Tm.size] at h
    have ha := f77 a (by omega)
    have e0 : IntKind.wrap .i64 (1 + (a.size : Int)) = ((a.size + 1 : Nat) : Int) := wrapEq (by omega) (by omega)
    exact Ev.run (.sub (.en (.f (ha)) <| .en (.w (e0)) <| .sub (.nil) <| .nil) <| .nil) (by kernel_rfl)⟩
  | .snd a, h => ⟨flat1 (Tm.flat _), by
    simp only [Tm.size] at h
    have ha := f77 a (by omega)
    have e0 : IntKind.wrap .i64 (1 + (a.size : Int)) = ((a.size + 1 : Nat) : Int) := wrapEq (by omega) (by omega)
    exact Ev.run (.sub (.en (.f (ha)) <| .en (.w (e0)) <| .sub (.nil) <| .nil) <| .nil) (by kernel_rfl)⟩
  | .unit, h => ⟨flat1 (Tm.flat _), by
    exact Ev.run (.sub (.nil) <| .nil) (by kernel_rfl)⟩

/-- The types that a term names are not too large. -/
def Tm.tok : Tm → Prop
  | .lam s b => s.ok ∧ b.tok
  | .app f a => f.tok ∧ a.tok
  | .succ a => a.tok
  | .recN s a b c => s.ok ∧ a.tok ∧ b.tok ∧ c.tok
  | .cons a b => a.tok ∧ b.tok
  | .fold s a b c => s.ok ∧ a.tok ∧ b.tok ∧ c.tok
  | .pair a b => a.tok ∧ b.tok
  | .fst a => a.tok
  | .snd a => a.tok
  | _ => True

theorem wz : IntKind.wrap .i64 (1 + 0) = ((1 : Nat) : Int) := by decide
theorem f272 : ∀ x : Tm, x.tok → x.size < 2 ^ 60 → EvF G 272 [x.enc] (.tuple [.int .i64 x.size, .bool true])
  | .var i, ht, h => ⟨flat1 (Tm.flat _), by
    have q : decide ((i : Int) < 0) = false := decide_eq_false (by omega)
    by_cases h0 : i = 0
    · subst h0; exact Ev.run (.sub (.nil) <| .sub (.nil) <| .en (.f (f318n)) <| .sub (.nil) <| .nil) (by kernel_rfl)
    · have q2 : ((i : Int) != 0) = true := by simp [h0]
      exact Ev.run (.sub (.nil) <| .en (.sk 8) <| .en (.sk 8) <| .en (.v q2) <| .sub (.nil) <| .en (.f (f318n)) <| .sub (.nil) <| .nil) (by kernel_rfl)⟩
  | .lam s a, ht, h => ⟨flat1 (Tm.flat _), by
    obtain ⟨hs, ta⟩ := ht
    simp only [Tm.size] at h
    have ha := f272 a ta (by omega)
    have e0 : IntKind.wrap .i64 (1 + (a.size : Int)) = ((a.size + 1 : Nat) : Int) := wrapEq (by omega) (by omega)
    exact Ev.run (.sub (.nil) <| .sub (.nil) <| .en (.f ((f177 hs))) <| .sub (.en (.f (ha)) <| .en (.w (e0)) <| .sub (.nil) <| .nil) <| .nil) (by kernel_rfl)⟩
  | .app a b, ht, h => ⟨flat1 (Tm.flat _), by
    obtain ⟨ta, tb⟩ := ht
    simp only [Tm.size] at h
    have ha := f272 a ta (by omega)
    have hb := f272 b tb (by omega)
    have e0 : IntKind.wrap .i64 (1 + (a.size : Int)) = ((a.size + 1 : Nat) : Int) := wrapEq (by omega) (by omega)
    have e1 : IntKind.wrap .i64 (((a.size + 1 : Nat) : Int) + (b.size : Int)) = ((a.size + b.size + 1 : Nat) : Int) := wrapEq (by omega) (by omega)
    exact Ev.run (.sub (.nil) <| .sub (.nil) <| .en (.f (f318n)) <| .sub (.en (.f (ha)) <| .en (.w (e0)) <| .sub (.en (.f (hb)) <| .en (.w (e1)) <| .sub (.nil) <| .nil) <| .nil) <| .nil) (by kernel_rfl)⟩
  | .zero, ht, h => ⟨flat1 (Tm.flat _), by
    exact Ev.run (.sub (.nil) <| .sub (.nil) <| .en (.f (f318n)) <| .sub (.nil) <| .nil) (by kernel_rfl)⟩
  | .succ a, ht, h => ⟨flat1 (Tm.flat _), by
    have ta := ht
    simp only [Tm.size] at h
    have ha := f272 a ta (by omega)
    have e0 : IntKind.wrap .i64 (1 + (a.size : Int)) = ((a.size + 1 : Nat) : Int) := wrapEq (by omega) (by omega)
    exact Ev.run (.sub (.nil) <| .sub (.nil) <| .en (.f (f318n)) <| .sub (.en (.f (ha)) <| .en (.w (e0)) <| .sub (.nil) <| .nil) <| .nil) (by kernel_rfl)⟩
  | .recN s a b c, ht, h => ⟨flat1 (Tm.flat _), by
    obtain ⟨hs, ta, tb, tc⟩ := ht
    simp only [Tm.size] at h
    have ha := f272 a ta (by omega)
    have hb := f272 b tb (by omega)
    have hc := f272 c tc (by omega)
    have e0 : IntKind.wrap .i64 (1 + (a.size : Int)) = ((a.size + 1 : Nat) : Int) := wrapEq (by omega) (by omega)
    have e1 : IntKind.wrap .i64 (((a.size + 1 : Nat) : Int) + (b.size : Int)) = ((a.size + b.size + 1 : Nat) : Int) := wrapEq (by omega) (by omega)
    have e2 : IntKind.wrap .i64 (((a.size + b.size + 1 : Nat) : Int) + (c.size : Int)) = ((a.size + b.size + c.size + 1 : Nat) : Int) := wrapEq (by omega) (by omega)
    exact Ev.run (.sub (.nil) <| .sub (.nil) <| .en (.f ((f177 hs))) <| .sub (.en (.f (ha)) <| .en (.w (e0)) <| .sub (.en (.f (hb)) <| .en (.w (e1)) <| .sub (.en (.f (hc)) <| .en (.w (e2)) <| .sub (.nil) <| .nil) <| .nil) <| .nil) <| .nil) (by kernel_rfl)⟩
  | .nil, ht, h => ⟨flat1 (Tm.flat _), by
    exact Ev.run (.sub (.nil) <| .sub (.nil) <| .en (.f (f318n)) <| .sub (.nil) <| .nil) (by kernel_rfl)⟩
  | .cons a b, ht, h => ⟨flat1 (Tm.flat _), by
    obtain ⟨ta, tb⟩ := ht
    simp only [Tm.size] at h
    have ha := f272 a ta (by omega)
    have hb := f272 b tb (by omega)
    have e0 : IntKind.wrap .i64 (1 + (a.size : Int)) = ((a.size + 1 : Nat) : Int) := wrapEq (by omega) (by omega)
    have e1 : IntKind.wrap .i64 (((a.size + 1 : Nat) : Int) + (b.size : Int)) = ((a.size + b.size + 1 : Nat) : Int) := wrapEq (by omega) (by omega)
    exact Ev.run (.sub (.nil) <| .sub (.nil) <| .en (.f (f318n)) <| .sub (.en (.f (ha)) <| .en (.w (e0)) <| .sub (.en (.f (hb)) <| .en (.w (e1)) <| .sub (.nil) <| .nil) <| .nil) <| .nil) (by kernel_rfl)⟩
  | .fold s a b c, ht, h => ⟨flat1 (Tm.flat _), by
    obtain ⟨hs, ta, tb, tc⟩ := ht
    simp only [Tm.size] at h
    have ha := f272 a ta (by omega)
    have hb := f272 b tb (by omega)
    have hc := f272 c tc (by omega)
    have e0 : IntKind.wrap .i64 (1 + (a.size : Int)) = ((a.size + 1 : Nat) : Int) := wrapEq (by omega) (by omega)
    have e1 : IntKind.wrap .i64 (((a.size + 1 : Nat) : Int) + (b.size : Int)) = ((a.size + b.size + 1 : Nat) : Int) := wrapEq (by omega) (by omega)
    have e2 : IntKind.wrap .i64 (((a.size + b.size + 1 : Nat) : Int) + (c.size : Int)) = ((a.size + b.size + c.size + 1 : Nat) : Int) := wrapEq (by omega) (by omega)
    exact Ev.run (.sub (.nil) <| .sub (.nil) <| .en (.f ((f177 hs))) <| .sub (.en (.f (ha)) <| .en (.w (e0)) <| .sub (.en (.f (hb)) <| .en (.w (e1)) <| .sub (.en (.f (hc)) <| .en (.w (e2)) <| .sub (.nil) <| .nil) <| .nil) <| .nil) <| .nil) (by kernel_rfl)⟩
  | .pair a b, ht, h => ⟨flat1 (Tm.flat _), by
    obtain ⟨ta, tb⟩ := ht
    simp only [Tm.size] at h
    have ha := f272 a ta (by omega)
    have hb := f272 b tb (by omega)
    have e0 : IntKind.wrap .i64 (1 + (a.size : Int)) = ((a.size + 1 : Nat) : Int) := wrapEq (by omega) (by omega)
    have e1 : IntKind.wrap .i64 (((a.size + 1 : Nat) : Int) + (b.size : Int)) = ((a.size + b.size + 1 : Nat) : Int) := wrapEq (by omega) (by omega)
    exact Ev.run (.sub (.nil) <| .sub (.nil) <| .en (.f (f318n)) <| .sub (.en (.f (ha)) <| .en (.w (e0)) <| .sub (.en (.f (hb)) <| .en (.w (e1)) <| .sub (.nil) <| .nil) <| .nil) <| .nil) (by kernel_rfl)⟩
  | .fst a, ht, h => ⟨flat1 (Tm.flat _), by
    have ta := ht
    simp only [Tm.size] at h
    have ha := f272 a ta (by omega)
    have e0 : IntKind.wrap .i64 (1 + (a.size : Int)) = ((a.size + 1 : Nat) : Int) := wrapEq (by omega) (by omega)
    exact Ev.run (.sub (.nil) <| .sub (.nil) <| .en (.f (f318n)) <| .sub (.en (.f (ha)) <| .en (.w (e0)) <| .sub (.nil) <| .nil) <| .nil) (by kernel_rfl)⟩
  | .snd a, ht, h => ⟨flat1 (Tm.flat _), by
    have ta := ht
    simp only [Tm.size] at h
    have ha := f272 a ta (by omega)
    have e0 : IntKind.wrap .i64 (1 + (a.size : Int)) = ((a.size + 1 : Nat) : Int) := wrapEq (by omega) (by omega)
    exact Ev.run (.sub (.nil) <| .sub (.nil) <| .en (.f (f318n)) <| .sub (.en (.f (ha)) <| .en (.w (e0)) <| .sub (.nil) <| .nil) <| .nil) (by kernel_rfl)⟩
  | .unit, ht, h => ⟨flat1 (Tm.flat _), by
    exact Ev.run (.sub (.nil) <| .sub (.nil) <| .en (.f (f318n)) <| .sub (.nil) <| .nil) (by kernel_rfl)⟩
theorem f141 : ∀ x : Tm, x.tok → EvF G 141 [x.enc] (.bool true)
  | .var i, ht => ⟨flat1 (Tm.flat _), by
    have q : decide ((i : Int) < 0) = false := decide_eq_false (by omega)
    exact Ev.run (.sub (.nil) <| .en (.f (f204n)) <| .sub (.nil) <| .nil) (by kernel_rfl)⟩
  | .lam s a, ht => ⟨flat1 (Tm.flat _), by
    obtain ⟨hs, ta⟩ := ht
    have ha := f141 a ta
    exact Ev.run (.sub (.nil) <| .en (.f ((f183 hs))) <| .sub (.en (.f (ha)) <| .sub (.nil) <| .nil) <| .nil) (by kernel_rfl)⟩
  | .app a b, ht => ⟨flat1 (Tm.flat _), by
    obtain ⟨ta, tb⟩ := ht
    have ha := f141 a ta
    have hb := f141 b tb
    exact Ev.run (.sub (.nil) <| .en (.f (f204n)) <| .sub (.en (.f (ha)) <| .sub (.en (.f (hb)) <| .sub (.nil) <| .nil) <| .nil) <| .nil) (by kernel_rfl)⟩
  | .zero, ht => ⟨flat1 (Tm.flat _), by
    exact Ev.run (.sub (.nil) <| .en (.f (f204n)) <| .sub (.nil) <| .nil) (by kernel_rfl)⟩
  | .succ a, ht => ⟨flat1 (Tm.flat _), by
    have ta := ht
    have ha := f141 a ta
    exact Ev.run (.sub (.nil) <| .en (.f (f204n)) <| .sub (.en (.f (ha)) <| .sub (.nil) <| .nil) <| .nil) (by kernel_rfl)⟩
  | .recN s a b c, ht => ⟨flat1 (Tm.flat _), by
    obtain ⟨hs, ta, tb, tc⟩ := ht
    have ha := f141 a ta
    have hb := f141 b tb
    have hc := f141 c tc
    exact Ev.run (.sub (.nil) <| .en (.f ((f183 hs))) <| .sub (.en (.f (ha)) <| .sub (.en (.f (hb)) <| .sub (.en (.f (hc)) <| .sub (.nil) <| .nil) <| .nil) <| .nil) <| .nil) (by kernel_rfl)⟩
  | .nil, ht => ⟨flat1 (Tm.flat _), by
    exact Ev.run (.sub (.nil) <| .en (.f (f204n)) <| .sub (.nil) <| .nil) (by kernel_rfl)⟩
  | .cons a b, ht => ⟨flat1 (Tm.flat _), by
    obtain ⟨ta, tb⟩ := ht
    have ha := f141 a ta
    have hb := f141 b tb
    exact Ev.run (.sub (.nil) <| .en (.f (f204n)) <| .sub (.en (.f (ha)) <| .sub (.en (.f (hb)) <| .sub (.nil) <| .nil) <| .nil) <| .nil) (by kernel_rfl)⟩
  | .fold s a b c, ht => ⟨flat1 (Tm.flat _), by
    obtain ⟨hs, ta, tb, tc⟩ := ht
    have ha := f141 a ta
    have hb := f141 b tb
    have hc := f141 c tc
    exact Ev.run (.sub (.nil) <| .en (.f ((f183 hs))) <| .sub (.en (.f (ha)) <| .sub (.en (.f (hb)) <| .sub (.en (.f (hc)) <| .sub (.nil) <| .nil) <| .nil) <| .nil) <| .nil) (by kernel_rfl)⟩
  | .pair a b, ht => ⟨flat1 (Tm.flat _), by
    obtain ⟨ta, tb⟩ := ht
    have ha := f141 a ta
    have hb := f141 b tb
    exact Ev.run (.sub (.nil) <| .en (.f (f204n)) <| .sub (.en (.f (ha)) <| .sub (.en (.f (hb)) <| .sub (.nil) <| .nil) <| .nil) <| .nil) (by kernel_rfl)⟩
  | .fst a, ht => ⟨flat1 (Tm.flat _), by
    have ta := ht
    have ha := f141 a ta
    exact Ev.run (.sub (.nil) <| .en (.f (f204n)) <| .sub (.en (.f (ha)) <| .sub (.nil) <| .nil) <| .nil) (by kernel_rfl)⟩
  | .snd a, ht => ⟨flat1 (Tm.flat _), by
    have ta := ht
    have ha := f141 a ta
    exact Ev.run (.sub (.nil) <| .en (.f (f204n)) <| .sub (.en (.f (ha)) <| .sub (.nil) <| .nil) <| .nil) (by kernel_rfl)⟩
  | .unit, ht => ⟨flat1 (Tm.flat _), by
    exact Ev.run (.sub (.nil) <| .en (.f (f204n)) <| .sub (.nil) <| .nil) (by kernel_rfl)⟩

/-- Terms that are not too large. -/
def Tm.fit (x : Tm) : Prop := x.tok ∧ x.size ≤ 4096

theorem f75 {x : Tm} (h : x.fit) : EvF G 75 [x.enc] (.int .i64 0) := ⟨flat1 x.flat, by
  have h' := h.2
  have h1 := f141 x h.1
  have h2 := f77 x (by omega)
  have e : decide ((4096 : Int) < x.size) = false := decide_eq_false (by omega)
  exact Ev.run (.en (.f (h1)) <| .en (.f (h2)) <| .en (.v e) <| .nil) (by kernel_rfl)⟩
theorem f218 {x : Tm} (h : x.fit) : EvF G 218 [x.enc] (.tuple [.int .i64 x.size, .int .i64 0]) := ⟨flat1 x.flat, by
  have h' := h.2
  have h1 := f272 x h.1 (by omega)
  have e : decide ((4096 : Int) < x.size) = false := decide_eq_false (by omega)
  exact Ev.run (.en (.f (h1)) <| .en (.v e) <| .nil) (by kernel_rfl)⟩
theorem f150 {x : Tm} (h : x.fit) : EvF G 150 [x.enc] (.tuple [.int .i64 x.size, .int .i64 0]) := ⟨flat1 x.flat, by have h1 := f218 h; exact Ev.run (.en (.f (h1)) <| .nil) (by kernel_rfl)⟩
theorem f242 {x : Tm} (h : x.fit) : EvF G 242 [x.enc] (.int .i64 0) := ⟨flat1 x.flat, by have h1 := f218 h; exact Ev.run (.en (.f (h1)) <| .nil) (by kernel_rfl)⟩
theorem f165r (t : Ty) : EvF G 165 [t.enc, t.enc] (.bool true) := by have h := f165 t t; rwa [decide_eq_true rfl] at h
theorem f165n : EvF G 165 [noTy, noTy] (.bool true) := ⟨rfl, by exact Ev.run (.sub (.nil) <| .nil) (by kernel_rfl)⟩
theorem f312 : ∀ x : Tm, EvF G 312 [x.enc, x.enc] (.bool true)
  | .var i => ⟨flat2 (Tm.flat _) (Tm.flat _), by
    have q : ((i : Int) != i) = false := by simp
    exact Ev.run (.en (.sk 8) <| .en (.v q) <| .en (.f (f165n)) <| .sub (.nil) <| .nil) (by kernel_rfl)⟩
  | .lam s a => ⟨flat2 (Tm.flat _) (Tm.flat _), by
    have ha := f312 a
    exact Ev.run (.en (.f (f165r s)) <| .sub (.en (.f (ha)) <| .sub (.nil) <| .nil) <| .nil) (by kernel_rfl)⟩
  | .app a b => ⟨flat2 (Tm.flat _) (Tm.flat _), by
    have ha := f312 a
    have hb := f312 b
    exact Ev.run (.en (.f (f165n)) <| .sub (.en (.f (ha)) <| .sub (.en (.f (hb)) <| .sub (.nil) <| .nil) <| .nil) <| .nil) (by kernel_rfl)⟩
  | .zero => ⟨flat2 (Tm.flat _) (Tm.flat _), by
    exact Ev.run (.en (.f (f165n)) <| .sub (.nil) <| .nil) (by kernel_rfl)⟩
  | .succ a => ⟨flat2 (Tm.flat _) (Tm.flat _), by
    have ha := f312 a
    exact Ev.run (.en (.f (f165n)) <| .sub (.en (.f (ha)) <| .sub (.nil) <| .nil) <| .nil) (by kernel_rfl)⟩
  | .recN s a b c => ⟨flat2 (Tm.flat _) (Tm.flat _), by
    have ha := f312 a
    have hb := f312 b
    have hc := f312 c
    exact Ev.run (.en (.f (f165r s)) <| .sub (.en (.f (ha)) <| .sub (.en (.f (hb)) <| .sub (.en (.f (hc)) <| .sub (.nil) <| .nil) <| .nil) <| .nil) <| .nil) (by kernel_rfl)⟩
  | .nil => ⟨flat2 (Tm.flat _) (Tm.flat _), by
    exact Ev.run (.en (.f (f165n)) <| .sub (.nil) <| .nil) (by kernel_rfl)⟩
  | .cons a b => ⟨flat2 (Tm.flat _) (Tm.flat _), by
    have ha := f312 a
    have hb := f312 b
    exact Ev.run (.en (.f (f165n)) <| .sub (.en (.f (ha)) <| .sub (.en (.f (hb)) <| .sub (.nil) <| .nil) <| .nil) <| .nil) (by kernel_rfl)⟩
  | .fold s a b c => ⟨flat2 (Tm.flat _) (Tm.flat _), by
    have ha := f312 a
    have hb := f312 b
    have hc := f312 c
    exact Ev.run (.en (.f (f165r s)) <| .sub (.en (.f (ha)) <| .sub (.en (.f (hb)) <| .sub (.en (.f (hc)) <| .sub (.nil) <| .nil) <| .nil) <| .nil) <| .nil) (by kernel_rfl)⟩
  | .pair a b => ⟨flat2 (Tm.flat _) (Tm.flat _), by
    have ha := f312 a
    have hb := f312 b
    exact Ev.run (.en (.f (f165n)) <| .sub (.en (.f (ha)) <| .sub (.en (.f (hb)) <| .sub (.nil) <| .nil) <| .nil) <| .nil) (by kernel_rfl)⟩
  | .fst a => ⟨flat2 (Tm.flat _) (Tm.flat _), by
    have ha := f312 a
    exact Ev.run (.en (.f (f165n)) <| .sub (.en (.f (ha)) <| .sub (.nil) <| .nil) <| .nil) (by kernel_rfl)⟩
  | .snd a => ⟨flat2 (Tm.flat _) (Tm.flat _), by
    have ha := f312 a
    exact Ev.run (.en (.f (f165n)) <| .sub (.en (.f (ha)) <| .sub (.nil) <| .nil) <| .nil) (by kernel_rfl)⟩
  | .unit => ⟨flat2 (Tm.flat _) (Tm.flat _), by
    exact Ev.run (.en (.f (f165n)) <| .sub (.nil) <| .nil) (by kernel_rfl)⟩

theorem f127_0 (k : Int) : EvF G 127 [.int .i64 k, .slice 5 []] (node k 0 0 [] []) := ⟨rfl, by exact Ev.run (.sub (.nil) <| .nil) (by kernel_rfl)⟩
theorem flatk1 (k : Int) {a : AV} (h : a.flat = true) : AV.flatL [.int .i64 k, .slice 5 [a]] = true := by simp [AV.flatL, AV.flat, h]
theorem flatk2 (k : Int) {a b : AV} (h : a.flat = true) (h2 : b.flat = true) : AV.flatL [.int .i64 k, .slice 5 [a, b]] = true := by simp [AV.flatL, AV.flat, h, h2]
theorem flatk3 (k : Int) {t a b c : AV} (ht : t.flat = true) (h : a.flat = true) (h2 : b.flat = true) (h3 : c.flat = true) : AV.flatL [.int .i64 k, t, .slice 5 [a, b, c]] = true := by simp [AV.flatL, AV.flat, ht, h, h2, h3]
theorem flatkt1 (k : Int) {t a : AV} (ht : t.flat = true) (h : a.flat = true) : AV.flatL [.int .i64 k, t, .slice 5 [a]] = true := by simp [AV.flatL, AV.flat, ht, h]
theorem f127_1 (k : Int) (a : Tm) : EvF G 127 [.int .i64 k, .slice 5 [a.enc]] (node k 0 0 [] [a.enc]) := ⟨flatk1 k a.flat, by exact Ev.run (.sub (.en (.f (f132 a)) <| .sub (.nil) <| .nil) <| .nil) (by kernel_rfl)⟩
theorem f127_2 (k : Int) (a b : Tm) : EvF G 127 [.int .i64 k, .slice 5 [a.enc, b.enc]] (node k 0 0 [] [a.enc, b.enc]) := ⟨flatk2 k a.flat b.flat, by exact Ev.run (.sub (.en (.f (f132 a)) <| .sub (.en (.f (f132 b)) <| .sub (.nil) <| .nil) <| .nil) <| .nil) (by kernel_rfl)⟩
theorem flatk3' (k : Int) {a b c : AV} (h : a.flat = true) (h2 : b.flat = true) (h3 : c.flat = true) : AV.flatL [.int .i64 k, .slice 5 [a, b, c]] = true := by simp [AV.flatL, AV.flat, h, h2, h3]
theorem f127_3 (k : Int) (a b c : Tm) : EvF G 127 [.int .i64 k, .slice 5 [a.enc, b.enc, c.enc]] (node k 0 0 [] [a.enc, b.enc, c.enc]) := ⟨flatk3' k a.flat b.flat c.flat, by exact Ev.run (.sub (.en (.f (f132 a)) <| .sub (.en (.f (f132 b)) <| .sub (.en (.f (f132 c)) <| .sub (.nil) <| .nil) <| .nil) <| .nil) <| .nil) (by kernel_rfl)⟩
theorem f216_0 (k : Int) : EvF G 216 [.int .i64 k, .slice 5 []] (node k 0 0 [] []) := ⟨rfl, by exact Ev.run (.nil) (by kernel_rfl)⟩
theorem f216_1 (k : Int) (a : Tm) : EvF G 216 [.int .i64 k, .slice 5 [a.enc]] (node k 0 0 [] [a.enc]) := ⟨flatk1 k a.flat, by exact Ev.run (.nil) (by kernel_rfl)⟩
theorem f216_2 (k : Int) (a b : Tm) : EvF G 216 [.int .i64 k, .slice 5 [a.enc, b.enc]] (node k 0 0 [] [a.enc, b.enc]) := ⟨flatk2 k a.flat b.flat, by exact Ev.run (.nil) (by kernel_rfl)⟩
theorem f128_1 (k : Int) (t : Ty) (a : Tm) : EvF G 128 [.int .i64 k, t.enc, .slice 5 [a.enc]] (node k 0 t.k t.a [a.enc]) := ⟨flatkt1 k t.flat a.flat, by exact Ev.run (.en (.f (f127_1 k a)) <| .en (.f (f106 t)) <| .nil) (by kernel_rfl)⟩
theorem f128_3 (k : Int) (t : Ty) (a b c : Tm) : EvF G 128 [.int .i64 k, t.enc, .slice 5 [a.enc, b.enc, c.enc]] (node k 0 t.k t.a [a.enc, b.enc, c.enc]) := ⟨flatk3 k t.flat a.flat b.flat c.flat, by exact Ev.run (.en (.f (f127_3 k a b c)) <| .en (.f (f106 t)) <| .nil) (by kernel_rfl)⟩
end Go.AI

