/- The generator: decidable formulas. -/
import Derived.Test.YtdpamhejneicdaaGreatDoorZH21
namespace Go.AI
set_option linter.unusedVariables false
set_option linter.unusedSimpArgs false
open Go
set_option maxRecDepth 100000
set_option maxHeartbeats 4000000

/-- How large a decidable formula of a depth is. -/
def dsz : Nat → Nat | 0 => 61 | n + 1 => 2 * dsz n + 61
structure MadeD (g : List Ty) (n : Nat) (d : DFm) : Prop where
  ty : DT g d
  nf : DN d
  size : d.fm.size ≤ dsz n
  depth : d.depth ≤ dsz n

theorem dsz_pos (n : Nat) : 61 ≤ dsz n := by cases n <;> simp [dsz]
theorem eqD {g : List Ty} {x y : Tm} (hx : Made1 g x) (hy : Made1 g y) (n : Nat) : MadeD g n (.eq x y) where
  ty := ⟨hx.ty, hy.ty⟩
  nf := ⟨hx.n1, hy.n1⟩
  size := by have := hx.size; have := hy.size; have := dsz_pos n; simp only [DFm.fm, Fm.size]; omega
  depth := by have := dsz_pos n; simp only [DFm.depth]; omega

theorem c17 (t : List Int) (ht : t.length ≤ 500) : ∀ (n : Nat), n ≤ 2 → ∀ (g : List Ty) (l : List AV), l = g.map Ty.enc → g.length + n < 100 → (∀ s ∈ g, s.noFn) → ∀ k, k ≤ t.length →
    ∃ (d : DFm) (k' : Nat), MadeD g n d ∧ k' ≤ t.length ∧ EvC G 17 [.ptr 0 0, .slice 2 l, .int .i64 (n : Int)] (Deck t k) false d.fm.enc (Deck t k')
  | 0, _, g, l, hl, hg, hnf, k, hk => by
    obtain ⟨x, k1, hx, hk1, h1⟩ := c60_1 t ht hl (by omega) hnf k hk
    obtain ⟨y, k2, hy, hk2, h2⟩ := c60_1 t ht hl (by omega) hnf k1 hk1
    have m := f62 x y
    refine ⟨.eq x y, k2, eqD hx hy 0, hk2, .with ?_ rfl⟩
    exact Ev.run (.en (.f (f23)) <| .en (.r (h1)) <| .en (.r (h2)) <| .en (.f (m)) <| .nil) (by kernel_rfl)
  | n + 1, hn, g, l, hl, hg, hnf, k, hk => by
    obtain ⟨c, k1, hc, hk1, h6⟩ := c47 t k 6 (by omega) (by omega) ht hk
    have q : decide ((0 : Int) < ((n + 1 : Nat) : Int)) = true := decide_eq_true (by omega)
    have w : IntKind.wrap .i64 (((n + 1 : Nat) : Int) - 1) = (n : Int) := wrapEq (by omega) (by omega)
    have hc' : c = 0 ∨ c = 1 ∨ (c = 2 ∨ c = 3) ∨ (c = 4 ∨ c = 5) := by omega
    have hd : dsz n ≤ 247 := by
      have : n = 0 ∨ n = 1 := by omega
      rcases this with rfl | rfl <;> simp [dsz]
    rcases hc' with rfl | rfl | hc2 | hc4
    · obtain ⟨a, k2, ha, hk2, h1⟩ := c17 t ht n (by omega) g l hl (by omega) hnf k1 hk1
      obtain ⟨b, k3, hb, hk3, h2⟩ := c17 t ht n (by omega) g l hl (by omega) hnf k2 hk2
      have m := f20a a.fm b.fm
      refine ⟨.two .and a b, k3, ⟨⟨ha.ty, hb.ty⟩, ⟨ha.nf, hb.nf⟩, by have := ha.size; have := hb.size; simp only [DFm.fm, Fm.size, dsz]; omega, by have := ha.depth; have := hb.depth; simp only [DFm.depth, dsz]; omega⟩, hk3, .with ?_ rfl⟩
      exact Ev.run (.en (.f (f23)) <| .en (.v q) <| .en (.r (h6)) <| .en (.w (w)) <| .en (.r (h1)) <| .en (.w (w)) <| .en (.r (h2)) <| .en (.f (m)) <| .nil) (by kernel_rfl)
    · obtain ⟨a, k2, ha, hk2, h1⟩ := c17 t ht n (by omega) g l hl (by omega) hnf k1 hk1
      obtain ⟨b, k3, hb, hk3, h2⟩ := c17 t ht n (by omega) g l hl (by omega) hnf k2 hk2
      have m := f20i a.fm b.fm
      refine ⟨.two .imp a b, k3, ⟨⟨ha.ty, hb.ty⟩, ⟨ha.nf, hb.nf⟩, by have := ha.size; have := hb.size; simp only [DFm.fm, Fm.size, dsz]; omega, by have := ha.depth; have := hb.depth; simp only [DFm.depth, dsz]; omega⟩, hk3, .with ?_ rfl⟩
      exact Ev.run (.en (.f (f23)) <| .en (.v q) <| .en (.r (h6)) <| .en (.w (w)) <| .en (.r (h1)) <| .en (.w (w)) <| .en (.r (h2)) <| .en (.f (m)) <| .nil) (by kernel_rfl)
    · obtain ⟨e, k2, he, hk2, h0⟩ := c47 t k1 2 (by omega) (by omega) ht hk1
      obtain ⟨x, k3, hx, hk3, h1⟩ := c60_1 t ht hl (by omega) hnf k2 hk2
      obtain ⟨b, k4, hb, hk4, h2⟩ := c17 t ht n (by omega) (g ++ [.nat]) (l ++ [Ty.nat.enc]) (by rw [hl]; simp) (by simp; omega) (by intro s hs; rcases List.mem_append.1 hs with h | h; exact hnf s h; simp at h; rw [h]; trivial) k3 hk3
      have h61 := f61 g l .nat hl (by omega)
      have hsx := hx.size
      have hsb := hb.size
      have m := f31 (decide (e = 0)) (t := x) (f := b.fm) ⟨hx.ty.tok, by omega⟩ (hx.ty.near _ (by omega)) ⟨hb.ty.hasF.tok, by omega⟩ (by omega)
      have q0 : ((e : Int) == 0) = decide (e = 0) := by rw [Bool.eq_iff_iff]; simp
      refine ⟨.bnd (decide (e = 0)) x b, k4, ⟨⟨hx.ty, hb.ty⟩, ⟨hx.n1, hb.nf⟩, by rw [DFm.part_bnd]; simp only [dsz]; have := dsz_pos n; omega, by have := hb.depth; simp only [DFm.depth, dsz]; omega⟩, hk4, .with ?_ rfl⟩
      rcases hc2 with rfl | rfl
      · exact Ev.run (.en (.f (f23)) <| .en (.v q) <| .en (.r (h6)) <| .en (.r (h0)) <| .en (.v q0) <| .en (.r (h1)) <| .en (.f (h61)) <| .en (.w (w)) <| .en (.r (h2)) <| .en (.f (m)) <| .nil) (by kernel_rfl)
      · exact Ev.run (.en (.f (f23)) <| .en (.v q) <| .en (.r (h6)) <| .en (.r (h0)) <| .en (.v q0) <| .en (.r (h1)) <| .en (.f (h61)) <| .en (.w (w)) <| .en (.r (h2)) <| .en (.f (m)) <| .nil) (by kernel_rfl)
    · obtain ⟨x, k2, hx, hk2, h1⟩ := c60_1 t ht hl (by omega) hnf k1 hk1
      obtain ⟨y, k3, hy, hk3, h2⟩ := c60_1 t ht hl (by omega) hnf k2 hk2
      have m := f62 x y
      refine ⟨.eq x y, k3, eqD hx hy (n + 1), hk3, .with ?_ rfl⟩
      rcases hc4 with rfl | rfl
      · exact Ev.run (.en (.f (f23)) <| .en (.v q) <| .en (.r (h6)) <| .en (.r (h1)) <| .en (.r (h2)) <| .en (.f (m)) <| .nil) (by kernel_rfl)
      · exact Ev.run (.en (.f (f23)) <| .en (.v q) <| .en (.r (h6)) <| .en (.r (h1)) <| .en (.r (h2)) <| .en (.f (m)) <| .nil) (by kernel_rfl)
end Go.AI

