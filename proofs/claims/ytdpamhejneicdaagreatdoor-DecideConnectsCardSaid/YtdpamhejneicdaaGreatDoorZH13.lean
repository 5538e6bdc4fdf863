/- The machine: a fold on top; Eval. -/
import Derived.Test.YtdpamhejneicdaaGreatDoorZH12
namespace Go.AI
set_option linter.unusedVariables false
set_option linter.unusedSimpArgs false
open Go
set_option maxRecDepth 100000
set_option maxHeartbeats 4000000

/-- The machine on a term that may be a fold of terms without folds. -/
def evalT (n : Nat) : Tm → Nat → R
  | .fold _ a b c, r + 1 => bnd (evalM n a .nil r) fun va r1 => bnd (evalM n b .nil r1) fun vb r2 => bnd (evalM n c .nil r2) fun vc r3 => match vc with | .list l => if l.length < 2 ^ 31 then loopFold (evalM n) vb va l r3 else none | _ => none
  | t, r => evalM n t .nil r

theorem c255T (n : Nat) (t : Tm) (r lim : Nat) (res : Option (V × Nat)) (hx : evalT n t r = some res) (hr : r ≤ lim) (hl : lim < 2 ^ 40) : EvC G 255 [.ptr 0 0, t.enc, .nilp] (SM lim r []) false (resV res) (SM lim (resR res) []) := by
  have fin : evalM n t .nil r = some res → EvC G 255 [.ptr 0 0, t.enc, .nilp] (SM lim r []) false (resV res) (SM lim (resR res) []) := fun h => c255 n t .nil r lim res [] h hr hl
  cases t
  case fold s a b c =>
    cases r with
    | zero =>
      refine fin ?_
      simpa only [evalT] using hx
    | succ r =>
      clear fin
      simp only [evalT] at hx
      have q : decide ((lim : Int) ≤ ((lim - (r + 1) : Nat) : Int)) = false := decide_eq_false (by omega)
      have e1 : IntKind.wrap .i64 (((lim - (r + 1) : Nat) : Int) + 1) = ((lim - r : Nat) : Int) := wrapEq (by omega) (by omega)
      refine .with ?_ rfl
      have ih := c255 n
      rcases bnd_some hx with ⟨h1, rfl⟩ | ⟨va, r1, h1, hx2⟩
      · have k1 := ih _ _ _ lim _ [] h1 (by omega) hl
        clear ih
        exact Ev.run (.en (.v q) <| .en (.w (e1)) <| .sub (.sub (.en (.r (k1)) <| .nil) <| .nil) <| .nil) (by kernel_rfl)
      · have l1 := evalM_le n _ _ _ _ _ h1
        have k1 := ih _ _ _ lim _ [] h1 (by omega) hl
        rcases bnd_some hx2 with ⟨h2, rfl⟩ | ⟨vb, r2, h2, hx3⟩
        · have k2 := ih _ _ _ lim _ [] h2 (by omega) hl
          clear ih
          exact Ev.run (.en (.v q) <| .en (.w (e1)) <| .sub (.sub (.en (.r (k1)) <| .sub (.en (.r (k2)) <| .nil) <| .nil) <| .nil) <| .nil) (by kernel_rfl)
        · have l2 := evalM_le n _ _ _ _ _ h2
          have k2 := ih _ _ _ lim _ [] h2 (by omega) hl
          rcases bnd_some hx3 with ⟨h3, rfl⟩ | ⟨vc, r3, h3, hx4⟩
          · have k3 := ih _ _ _ lim _ [] h3 (by omega) hl
            clear ih
            exact Ev.run (.en (.v q) <| .en (.w (e1)) <| .sub (.sub (.en (.r (k1)) <| .sub (.en (.r (k2)) <| .sub (.en (.r (k3)) <| .nil) <| .nil) <| .nil) <| .nil) <| .nil) (by kernel_rfl)
          · have l3 := evalM_le n _ _ _ _ _ h3
            have k3 := ih _ _ _ lim _ [] h3 (by omega) hl
            split at hx4
            · rename_i l
              split at hx4
              · rename_i hk
                have k4 := c301 ih (evalM_le n) hx4 hk (by omega) hl
                clear ih
                rcases res with _ | ⟨v, r'⟩ <;> exact Ev.run (.en (.v q) <| .en (.w (e1)) <| .sub (.sub (.en (.r (k1)) <| .sub (.en (.r (k2)) <| .sub (.en (.r (k3)) <| .sub (.nil) <| .nil) <| .nil) <| .nil) <| .nil) <| .en (.r (k4)) <| .nil) (by kernel_rfl)
              · cases hx4
            · cases hx4
  all_goals exact fin (by simpa only [evalT] using hx)

abbrev vnum (k : Nat) : AV := .agg [.int .i64 1, .int .i64 (k : Int), .slice 1 [], .slice 4 []]
abbrev vzero : AV := .agg [.int .i64 0, .int .i64 0, .slice 1 [], .slice 4 []]

theorem flatE {x : AV} (h : x.flat = true) (w : Int) : AV.flatL [x, .slice 4 [], .int .i64 w] = true := by simp [AV.flatL, AV.flat, h]
/-- machine.Eval of a closed number -/
theorem f196 {x : Tm} {n w : Nat} {res : Option (V × Nat)} (hx : x.fit) (h : HasTy [] x .nat) (hw : w ≤ 65536) (he : evalT n x w = some res) (hres : ∀ v r, res = some (v, r) → ∃ k, v = .num k) :
    EvF G 196 [x.enc, .int .i64 (w : Int)] (match res with | none => .tuple [vzero, .int .i64 0, .int .i64 5] | some (.num k, r) => .tuple [vnum k, .int .i64 ((w - r : Nat) : Int), .int .i64 0] | _ => .nilp) := ⟨flatT1 x.flat w, by
  have h1 := f197 hx h
  have k := c255T n x w w res he (Nat.le_refl _) (by omega)
  rw [show SM w w [] = [.box [.int .i64 0, .int .i64 (w : Int)] []] by simp [SM]] at k
  have q1 : decide ((w : Int) < 0) = false := decide_eq_false (by omega)
  have q2 : decide ((65536 : Int) < (w : Int)) = false := decide_eq_false (by omega)
  have fl := flatE x.flat w
  rcases res with _ | ⟨v, r⟩
  · exact Ev.run (.subF fl (.en (.f (h1)) <| .sub (.nil) <| .sub (.sub (.sub (.sub (.sub (.nil) <| .nil) <| .nil) <| .nil) <| .subK (.nil) (.nil) <| .sub (.sub (.sub (.nil) <| .sub (.nil) <| .nil) <| .nil) <| .nil) <| .en (.sk 8) <| .en (.v q2) <| .en (.r (k)) <| .nil) <| .nil) (by kernel_rfl)
  · obtain ⟨k, rfl⟩ := hres v r rfl
    exact Ev.run (.subF fl (.en (.f (h1)) <| .sub (.nil) <| .sub (.sub (.sub (.sub (.sub (.nil) <| .nil) <| .nil) <| .nil) <| .subK (.nil) (.nil) <| .sub (.sub (.sub (.nil) <| .sub (.nil) <| .nil) <| .nil) <| .nil) <| .en (.sk 8) <| .en (.v q2) <| .en (.r (k)) <| .sub (.sub (.nil) <| .nil) <| .sub (.nil) <| .nil) <| .nil) (by kernel_rfl)⟩
end Go.AI

