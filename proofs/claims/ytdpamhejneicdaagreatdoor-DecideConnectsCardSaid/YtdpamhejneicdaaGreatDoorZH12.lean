/- The machine: the contract of eval. -/
import Derived.Test.YtdpamhejneicdaaGreatDoorZH11
namespace Go.AI
set_option linter.unusedVariables false
set_option linter.unusedSimpArgs false
open Go
set_option maxRecDepth 100000
set_option maxHeartbeats 4000000

theorem c255_out (t : Tm) (e : VE) (lim : Nat) (rest : Sig) : EvC G 255 [.ptr 0 0, t.enc, e.enc] (SM lim 0 rest) false (resV none) (SM lim 0 rest) := .with (by
  have hlen := hlenT rest
  have q : decide ((lim : Int) ≤ ((lim - 0 : Nat) : Int)) = true := decide_eq_true (by omega)
  exact Ev.run (.en (.v q) <| .en (.sk 0) <| .en (.b hlen) <| .nil) (by kernel_rfl)) rfl

theorem c255 : ∀ n, CE (evalM n)
  | 0 => fun t e r lim res rest hx hr hl => by cases hx
  | n + 1 => fun t e r lim res rest hx hr hl => by
    have hlen := hlenT rest
    have ih := c255 n
    cases r with
    | zero =>
      have : res = none := by cases t <;> simp only [evalM, Option.some.injEq] at hx <;> exact hx.symm
      subst this
      exact c255_out t e lim rest
    | succ r =>
      have q : decide ((lim : Int) ≤ ((lim - (r + 1) : Nat) : Int)) = false := decide_eq_false (by omega)
      have e1 : IntKind.wrap .i64 (((lim - (r + 1) : Nat) : Int) + 1) = ((lim - r : Nat) : Int) := wrapEq (by omega) (by omega)
      refine .with ?_ rfl
      cases t <;> simp only [evalM] at hx
      case var i =>
        split at hx
        · rename_i hi
          cases hv : e.at i with
          | none => rw [hv] at hx; cases hx
          | some v =>
            rw [hv] at hx
            simp only [Option.map_some, Option.some.injEq] at hx
            subst hx
            have k := c298 hv hi
            clear ih
            exact Ev.run (.en (.v q) <| .en (.w (e1)) <| .en (.f (k)) <| .en (.b hlen) <| .nil) (by kernel_rfl)
        · cases hx
      case lam s b =>
        simp only [Option.some.injEq] at hx
        subst hx
        clear ih
        cases e <;> exact Ev.run (.en (.v q) <| .en (.w (e1)) <| .en (.sk 0) <| .en (.sk 0) <| .en (.b hlen) <| .nil) (by kernel_rfl)
      case app f a =>
        rcases bnd_some hx with ⟨h1, rfl⟩ | ⟨vf, r1, h1, hx2⟩
        · have k1 := ih _ _ _ lim _ rest h1 (by omega) hl
          clear ih
          exact Ev.run (.en (.v q) <| .en (.w (e1)) <| .sub (.sub (.en (.r (k1)) <| .nil) <| .en (.b hlen) <| .nil) <| .en (.sk 0) <| .en (.b hlen) <| .nil) (by kernel_rfl)
        · have l1 := evalM_le n _ _ _ _ _ h1
          have k1 := ih _ _ _ lim _ rest h1 (by omega) hl
          rcases bnd_some hx2 with ⟨h2, rfl⟩ | ⟨va, r2, h2, hx3⟩
          · have k2 := ih _ _ _ lim _ rest h2 (by omega) hl
            clear ih
            exact Ev.run (.en (.v q) <| .en (.w (e1)) <| .sub (.sub (.en (.r (k1)) <| .sub (.en (.r (k2)) <| .nil) <| .nil) <| .en (.b hlen) <| .nil) <| .en (.sk 0) <| .en (.b hlen) <| .nil) (by kernel_rfl)
          · have l2 := evalM_le n _ _ _ _ _ h2
            have k2 := ih _ _ _ lim _ rest h2 (by omega) hl
            have k3 := c256_1 ih hx3 (by omega) hl rest
            clear ih
            rcases res with _ | ⟨v, r'⟩ <;> exact Ev.run (.en (.v q) <| .en (.w (e1)) <| .sub (.sub (.en (.r (k1)) <| .sub (.en (.r (k2)) <| .sub (.nil) <| .nil) <| .nil) <| .en (.b hlen) <| .nil) <| .en (.r (k3)) <| .en (.b hlen) <| .nil) (by kernel_rfl)
      case zero =>
        simp only [Option.some.injEq] at hx
        subst hx
        clear ih
        exact Ev.run (.en (.v q) <| .en (.w (e1)) <| .sub (.sub (.nil) <| .en (.b hlen) <| .nil) <| .en (.sk 0) <| .en (.sk 0) <| .en (.sk 0) <| .en (.sk 0) <| .en (.sk 0) <| .en (.sk 0) <| .en (.sk 0) <| .en (.sk 0) <| .en (.sk 0) <| .en (.sk 0) <| .en (.sk 0) <| .en (.b hlen) <| .nil) (by kernel_rfl)
      case nil =>
        simp only [Option.some.injEq] at hx
        subst hx
        clear ih
        exact Ev.run (.en (.v q) <| .en (.w (e1)) <| .sub (.sub (.nil) <| .en (.b hlen) <| .nil) <| .en (.sk 0) <| .en (.sk 0) <| .en (.sk 0) <| .en (.sk 0) <| .en (.sk 0) <| .en (.b hlen) <| .nil) (by kernel_rfl)
      case unit =>
        simp only [Option.some.injEq] at hx
        subst hx
        clear ih
        exact Ev.run (.en (.v q) <| .en (.w (e1)) <| .sub (.sub (.nil) <| .en (.b hlen) <| .nil) <| .en (.sk 0) <| .en (.sk 0) <| .en (.sk 0) <| .en (.sk 0) <| .en (.sk 0) <| .en (.sk 0) <| .en (.sk 0) <| .en (.sk 0) <| .en (.sk 0) <| .en (.sk 0) <| .en (.sk 0) <| .en (.b hlen) <| .nil) (by kernel_rfl)
      case succ a =>
        rcases bnd_some hx with ⟨h1, rfl⟩ | ⟨vf, r1, h1, hx2⟩
        · have k1 := ih _ _ _ lim _ rest h1 (by omega) hl
          clear ih
          exact Ev.run (.en (.v q) <| .en (.w (e1)) <| .sub (.sub (.en (.r (k1)) <| .nil) <| .en (.b hlen) <| .nil) <| .en (.sk 0) <| .en (.b hlen) <| .nil) (by kernel_rfl)
        · have k1 := ih _ _ _ lim _ rest h1 (by omega) hl
          clear ih
          split at hx2
          · rename_i k
            split at hx2
            · rename_i hk
              simp only [Option.some.injEq] at hx2
              subst hx2
              have hk' : k < 2 ^ 61 := hk
              have e2 : IntKind.wrap .i64 ((k : Int) + 1) = ((k + 1 : Nat) : Int) := wrapEq (by omega) (by omega)
              exact Ev.run (.en (.v q) <| .en (.w (e1)) <| .sub (.sub (.en (.r (k1)) <| .sub (.nil) <| .nil) <| .en (.b hlen) <| .nil) <| .en (.w (e2)) <| .en (.b hlen) <| .nil) (by kernel_rfl)
            · cases hx2
          · cases hx2
      case recN s a b c =>
        rcases bnd_some hx with ⟨h1, rfl⟩ | ⟨va, r1, h1, hx2⟩
        · have k1 := ih _ _ _ lim _ rest h1 (by omega) hl
          clear ih
          exact Ev.run (.en (.v q) <| .en (.w (e1)) <| .sub (.sub (.en (.r (k1)) <| .nil) <| .en (.b hlen) <| .nil) <| .en (.sk 0) <| .en (.b hlen) <| .nil) (by kernel_rfl)
        · have l1 := evalM_le n _ _ _ _ _ h1
          have k1 := ih _ _ _ lim _ rest h1 (by omega) hl
          rcases bnd_some hx2 with ⟨h2, rfl⟩ | ⟨vb, r2, h2, hx3⟩
          · have k2 := ih _ _ _ lim _ rest h2 (by omega) hl
            clear ih
            exact Ev.run (.en (.v q) <| .en (.w (e1)) <| .sub (.sub (.en (.r (k1)) <| .sub (.en (.r (k2)) <| .nil) <| .nil) <| .en (.b hlen) <| .nil) <| .en (.sk 0) <| .en (.b hlen) <| .nil) (by kernel_rfl)
          · have l2 := evalM_le n _ _ _ _ _ h2
            have k2 := ih _ _ _ lim _ rest h2 (by omega) hl
            rcases bnd_some hx3 with ⟨h3, rfl⟩ | ⟨vc, r3, h3, hx4⟩
            · have k3 := ih _ _ _ lim _ rest h3 (by omega) hl
              clear ih
              exact Ev.run (.en (.v q) <| .en (.w (e1)) <| .sub (.sub (.en (.r (k1)) <| .sub (.en (.r (k2)) <| .sub (.en (.r (k3)) <| .nil) <| .nil) <| .nil) <| .en (.b hlen) <| .nil) <| .en (.sk 0) <| .en (.b hlen) <| .nil) (by kernel_rfl)
            · have l3 := evalM_le n _ _ _ _ _ h3
              have k3 := ih _ _ _ lim _ rest h3 (by omega) hl
              split at hx4
              · rename_i k
                split at hx4
                · rename_i hk
                  have k4 := c300 ih (evalM_le n) hx4 hk (by omega) hl rest
                  clear ih
                  rcases res with _ | ⟨v, r'⟩ <;> exact Ev.run (.en (.v q) <| .en (.w (e1)) <| .sub (.sub (.en (.r (k1)) <| .sub (.en (.r (k2)) <| .sub (.en (.r (k3)) <| .sub (.nil) <| .nil) <| .nil) <| .nil) <| .en (.b hlen) <| .nil) <| .en (.r (k4)) <| .en (.b hlen) <| .nil) (by kernel_rfl)
                · cases hx4
              · cases hx4
      case cons a b =>
        rcases bnd_some hx with ⟨h1, rfl⟩ | ⟨va, r1, h1, hx2⟩
        · have k1 := ih _ _ _ lim _ rest h1 (by omega) hl
          clear ih
          exact Ev.run (.en (.v q) <| .en (.w (e1)) <| .sub (.sub (.en (.r (k1)) <| .nil) <| .en (.b hlen) <| .nil) <| .en (.sk 0) <| .en (.b hlen) <| .nil) (by kernel_rfl)
        · have l1 := evalM_le n _ _ _ _ _ h1
          have k1 := ih _ _ _ lim _ rest h1 (by omega) hl
          rcases bnd_some hx2 with ⟨h2, rfl⟩ | ⟨vb, r2, h2, hx3⟩
          · have k2 := ih _ _ _ lim _ rest h2 (by omega) hl
            clear ih
            exact Ev.run (.en (.v q) <| .en (.w (e1)) <| .sub (.sub (.en (.r (k1)) <| .sub (.en (.r (k2)) <| .nil) <| .nil) <| .en (.b hlen) <| .nil) <| .en (.sk 0) <| .en (.b hlen) <| .nil) (by kernel_rfl)
          · have k2 := ih _ _ _ lim _ rest h2 (by omega) hl
            clear ih
            split at hx3
            · rename_i k l
              simp only [Option.some.injEq] at hx3
              subst hx3
              simp only [resR] at k1 k2 ⊢
              cases l <;> exact Ev.run (.en (.v q) <| .en (.w (e1)) <| .sub (.sub (.en (.r (k1)) <| .sub (.en (.r (k2)) <| .sub (.nil) <| .nil) <| .nil) <| .en (.b hlen) <| .nil) <| .en (.sk 0) <| .en (.sk 0) <| .en (.sk 0) <| .en (.sk 0) <| .en (.sk 0) <| .en (.sk 0) <| .en (.b hlen) <| .nil) (by kernel_rfl)
            · cases hx3
      case fold => cases hx
      case pair a b =>
        rcases bnd_some hx with ⟨h1, rfl⟩ | ⟨va, r1, h1, hx2⟩
        · have k1 := ih _ _ _ lim _ rest h1 (by omega) hl
          clear ih
          exact Ev.run (.en (.v q) <| .en (.w (e1)) <| .sub (.sub (.en (.r (k1)) <| .nil) <| .en (.b hlen) <| .nil) <| .en (.sk 0) <| .en (.b hlen) <| .nil) (by kernel_rfl)
        · have l1 := evalM_le n _ _ _ _ _ h1
          have k1 := ih _ _ _ lim _ rest h1 (by omega) hl
          rcases bnd_some hx2 with ⟨h2, rfl⟩ | ⟨vb, r2, h2, hx3⟩
          · have k2 := ih _ _ _ lim _ rest h2 (by omega) hl
            clear ih
            exact Ev.run (.en (.v q) <| .en (.w (e1)) <| .sub (.sub (.en (.r (k1)) <| .sub (.en (.r (k2)) <| .nil) <| .nil) <| .en (.b hlen) <| .nil) <| .en (.sk 0) <| .en (.b hlen) <| .nil) (by kernel_rfl)
          · have k2 := ih _ _ _ lim _ rest h2 (by omega) hl
            clear ih
            simp only [Option.some.injEq] at hx3
            subst hx3
            exact Ev.run (.en (.v q) <| .en (.w (e1)) <| .sub (.sub (.en (.r (k1)) <| .sub (.en (.r (k2)) <| .sub (.nil) <| .nil) <| .nil) <| .en (.b hlen) <| .nil) <| .en (.sk 0) <| .en (.sk 0) <| .en (.sk 0) <| .en (.sk 0) <| .en (.sk 0) <| .en (.sk 0) <| .en (.sk 0) <| .en (.sk 0) <| .en (.b hlen) <| .nil) (by kernel_rfl)
      case fst a =>
        rcases bnd_some hx with ⟨h1, rfl⟩ | ⟨vf, r1, h1, hx2⟩
        · have k1 := ih _ _ _ lim _ rest h1 (by omega) hl
          clear ih
          exact Ev.run (.en (.v q) <| .en (.w (e1)) <| .sub (.sub (.en (.r (k1)) <| .nil) <| .en (.b hlen) <| .nil) <| .en (.sk 0) <| .en (.b hlen) <| .nil) (by kernel_rfl)
        · have k1 := ih _ _ _ lim _ rest h1 (by omega) hl
          clear ih
          split at hx2
          · rename_i x y
            simp only [Option.some.injEq] at hx2
            subst hx2
            exact Ev.run (.en (.v q) <| .en (.w (e1)) <| .sub (.sub (.en (.r (k1)) <| .sub (.nil) <| .nil) <| .en (.b hlen) <| .nil) <| .en (.sk 0) <| .en (.sk 0) <| .en (.sk 0) <| .en (.sk 0) <| .en (.sk 0) <| .en (.sk 0) <| .en (.sk 0) <| .en (.sk 0) <| .en (.sk 0) <| .en (.b hlen) <| .nil) (by kernel_rfl)
          · cases hx2
      case snd a =>
        rcases bnd_some hx with ⟨h1, rfl⟩ | ⟨vf, r1, h1, hx2⟩
        · have k1 := ih _ _ _ lim _ rest h1 (by omega) hl
          clear ih
          exact Ev.run (.en (.v q) <| .en (.w (e1)) <| .sub (.sub (.en (.r (k1)) <| .nil) <| .en (.b hlen) <| .nil) <| .en (.sk 0) <| .en (.b hlen) <| .nil) (by kernel_rfl)
        · have k1 := ih _ _ _ lim _ rest h1 (by omega) hl
          clear ih
          split at hx2
          · rename_i x y
            simp only [Option.some.injEq] at hx2
            subst hx2
            exact Ev.run (.en (.v q) <| .en (.w (e1)) <| .sub (.sub (.en (.r (k1)) <| .sub (.nil) <| .nil) <| .en (.b hlen) <| .nil) <| .en (.sk 0) <| .en (.sk 0) <| .en (.sk 0) <| .en (.sk 0) <| .en (.sk 0) <| .en (.sk 0) <| .en (.sk 0) <| .en (.sk 0) <| .en (.sk 0) <| .en (.sk 0) <| .en (.b hlen) <| .nil) (by kernel_rfl)
          · cases hx2
end Go.AI

