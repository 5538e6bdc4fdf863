/- DecideConnects: the law. -/
import Derived.Test.YtdpamhejneicdaaGreatDoorZH22
namespace Go.AI
set_option linter.unusedVariables false
set_option linter.unusedSimpArgs false
open Go
set_option maxRecDepth 100000
set_option maxHeartbeats 4000000

def TR.b : TR → Bool | .ok b _ => b | .err _ _ => false
def TR.wk (w : Nat) : TR → Int | .ok _ r => ((w - r : Nat) : Int) | .err _ _ => 0
def TR.e : TR → Int | .ok _ _ => 0 | .err e _ => e
theorem f19' {n : Nat} {d : DFm} {w : Nat} {res : TR} (hx : truthM n d w = some res) (hg : GoodD d) (hw : w ≤ 65536) : EvF G 19 [d.fm.enc, .int .i64 (w : Int)] (.tuple [.bool res.b, .int .i64 (res.wk w), .int .i64 res.e]) := by
  have h := f19 hx hg hw
  cases res <;> exact h
theorem TR.e_in {res : TR} (h : res.okE) : res.e = 0 ∨ res.e = 4 ∨ res.e = 5 := by
  cases res with
  | ok b r => exact .inl rfl
  | err e r => exact .inr h
theorem f21 {e : Int} (h : e = 0 ∨ e = 4 ∨ e = 5) : EvF G 21 [.int .i64 e] (.bool true) := ⟨rfl, by
  rcases h with rfl | rfl | rfl
  · exact Ev.run (.nil) (by kernel_rfl)
  · exact Ev.run (.nil) (by kernel_rfl)
  · exact Ev.run (.nil) (by kernel_rfl)⟩

def dLess (m n : Nat) : DFm := .eq (.app (.app subM (.succ (.num m))) (.num n)) .zero
theorem dLess_ty (m n : Nat) : DT [] (dLess m n) := ⟨.app (.app (subM_ty []) (.succ (Tm.num_ty m []))) (Tm.num_ty n []), .zero⟩
theorem dLess_good {m n : Nat} (h : m + n ≤ 4000) : GoodD (dLess m n) := ⟨dLess_ty m n, by
  have := lessM_size (.num m) (.num n)
  rw [Tm.num_size, Tm.num_size] at this
  show (lessM (.num m) (.num n)).size ≤ 4096
  omega⟩
theorem num_fit {n : Nat} (h : n ≤ 4000) : (Tm.num n).fit := ⟨(Tm.num_ty n []).tok, by rw [Tm.num_size]; omega⟩
theorem fLess {m n : Nat} (h : m + n ≤ 4000) : EvF G 27 [(Tm.num m).enc, (Tm.num n).enc] (.tuple [(dLess m n).fm.enc, .int .i64 0]) := f27 (num_fit (by omega)) (num_fit (by omega)) (by rw [Tm.num_size, Tm.num_size]; omega)
theorem sane12 : truthM 60 (dLess 1 2) 1000 = some (.ok true 963) := by kernel_rfl
theorem sane22 : truthM 60 (dLess 2 2) 1000 = some (.ok false 958) := by kernel_rfl
theorem f14 : EvF G 14 [] (.bool true) := ⟨rfl, by
  have a1 : EvF G 28 [.int .i64 1] (Tm.num 1).enc := f28 (n := 1) (by omega)
  have a2 : EvF G 28 [.int .i64 2] (Tm.num 2).enc := f28 (n := 2) (by omega)
  have b1 := fLess (m := 1) (n := 2) (by omega)
  have b2 := fLess (m := 2) (n := 2) (by omega)
  have c1 : EvF G 19 [(dLess 1 2).fm.enc, .int .i64 1000] _ := f19 (w := 1000) sane12 (dLess_good (by omega)) (by omega)
  have c2 : EvF G 19 [(dLess 2 2).fm.enc, .int .i64 1000] _ := f19 (w := 1000) sane22 (dLess_good (by omega)) (by omega)
  exact Ev.run (.en (.f (a1)) <| .en (.f (a2)) <| .en (.f (b1)) <| .en (.f (a2)) <| .en (.f (a2)) <| .en (.f (b2)) <| .en (.f (c1)) <| .en (.f (c2)) <| .nil) (by kernel_rfl)⟩

theorem ints_flat : ∀ t : List Int, AV.flatL (t.map (AV.int .i64)) = true
  | [] => rfl
  | x :: t => by simp [AV.flatL, AV.flat, ints_flat t]

def dFalse : DFm := .eq .zero (.succ .zero)
theorem dFalse_run (n r : Nat) : truthM (n + 5) dFalse (r + 3) = some (.ok false r) := rfl

theorem law3 (t : List Int) : Ev G (.call 3 [.slice 1 (t.map (AV.int .i64))] []) (.ret (.bool true) []) := by
  have hs := f14
  have fl : AV.flatL [.slice 1 (t.map (AV.int .i64))] = true := by simp [AV.flatL, AV.flat, ints_flat]
  have hln : (t.map (AV.int .i64)).length = t.length := by simp
  by_cases ht : t.length ≤ 500
  · have q : decide (((t.map (AV.int .i64)).length : Int) ≤ 500) = true := decide_eq_true (by omega)
    obtain ⟨d1, k1, m1, hk1, g1⟩ := c17 t ht 2 (by omega) [] [] rfl (by simp) (by simp) 0 (by omega)
    obtain ⟨d2, k2, m2, hk2, g2⟩ := c17 t ht 2 (by omega) [] [] rfl (by simp) (by simp) k1 hk1
    have z1 := m1.size
    have z2 := m2.size
    have y1 := m1.depth
    have y2 := m2.depth
    simp only [dsz] at z1 z2 y1 y2
    have G1 : GoodD d1 := ⟨m1.ty, by omega⟩
    have G2 : GoodD d2 := ⟨m2.ty, by omega⟩
    have Ga : GoodD (.two .and d1 d2) := ⟨⟨m1.ty, m2.ty⟩, by simp only [DFm.fm, Fm.size]; omega⟩
    have Gi : GoodD (.two .imp d1 d2) := ⟨⟨m1.ty, m2.ty⟩, by simp only [DFm.fm, Fm.size]; omega⟩
    have Gn : GoodD (.two .imp d1 dFalse) := ⟨⟨m1.ty, .zero, .succ .zero⟩, by simp only [DFm.fm, Fm.size, dFalse, Tm.size]; omega⟩
    obtain ⟨r1, h1⟩ := truthM_tot 70000 d1 3000 G1 m1.nf (by omega) (by omega)
    obtain ⟨r2, h2⟩ := truthM_tot 70000 d2 3000 G2 m2.nf (by omega) (by omega)
    obtain ⟨ra, ha⟩ := truthM_tot 70001 (.two .and d1 d2) 65536 Ga ⟨m1.nf, m2.nf⟩ (by simp only [DFm.depth]; omega) (by omega)
    obtain ⟨ri, hi⟩ := truthM_tot 70001 (.two .imp d1 d2) 65536 Gi ⟨m1.nf, m2.nf⟩ (by simp only [DFm.depth]; omega) (by omega)
    obtain ⟨rn, hn⟩ := truthM_tot 70001 (.two .imp d1 dFalse) 65536 Gn ⟨m1.nf, trivial, trivial⟩ (by simp only [DFm.depth, dFalse]; omega) (by omega)
    have v1 := f19' h1 G1 (by omega)
    have v2 := f19' h2 G2 (by omega)
    have va := f19' ha Ga (by omega)
    have vi := f19' hi Gi (by omega)
    have vn := f19' hn Gn (by omega)
    have e1 := TR.e_in (truthM_E _ _ _ _ h1)
    have e2 := TR.e_in (truthM_E _ _ _ _ h2)
    have l1 := f21 e1
    have l2 := f21 e2
    have n1 := f18 (f := d1.fm) G1.fit (by omega)
    have n2 := f20a d1.fm d2.fm
    have n3 := f20i d1.fm d2.fm
    by_cases b1 : r1.e = 0
    · by_cases b2 : r2.e = 0
      · -- both have a truth
        cases r1 with
        | err e r => simp only [TR.e] at b1; have := truthM_E _ _ _ _ h1; simp only [TR.okE] at this; omega
        | ok x r =>
          cases r2 with
          | err e r => simp only [TR.e] at b2; have := truthM_E _ _ _ _ h2; simp only [TR.okE] at this; omega
          | ok y s =>
            have s1 := truthM_sh 62536 _ _ _ _ _ h1
            have s2 := truthM_sh (r + 62536 - 3000) _ _ _ _ _ h2
            rw [show 3000 + (r + 62536 - 3000) = r + 62536 by omega] at s2
            have xa : ∃ r', ra = .ok (x && y) r' := by
              simp only [truthM] at ha
              rw [s1] at ha
              simp only [tb] at ha
              cases x with
              | false => simp only [Bool.false_eq_true, if_false, Option.some.injEq] at ha; exact ⟨_, ha.symm⟩
              | true => simp only [if_true] at ha; rw [s2] at ha; simp only [Option.some.injEq] at ha; exact ⟨_, ha.symm⟩
            have xi : ∃ r', ri = .ok (!x || y) r' := by
              simp only [truthM] at hi
              rw [s1] at hi
              simp only [tb] at hi
              cases x with
              | false => simp only [Bool.false_eq_true, if_false, Option.some.injEq] at hi; exact ⟨_, hi.symm⟩
              | true => simp only [if_true] at hi; rw [s2] at hi; simp only [Option.some.injEq] at hi; exact ⟨_, hi.symm⟩
            have xn : ∃ r', rn = .ok (!x) r' := by
              simp only [truthM] at hn
              rw [s1] at hn
              simp only [tb] at hn
              cases x with
              | false => simp only [Bool.false_eq_true, if_false, Option.some.injEq] at hn; exact ⟨_, hn.symm⟩
              | true =>
                simp only [if_true] at hn
                have hf := dFalse_run 69995 (r + 62533)
                rw [show r + 62533 + 3 = r + 62536 by omega] at hf
                rw [hf] at hn
                simp only [Option.some.injEq] at hn; exact ⟨_, hn.symm⟩
            obtain ⟨_, rfl⟩ := xa
            obtain ⟨_, rfl⟩ := xi
            obtain ⟨_, rfl⟩ := xn
            simp only [TR.b, TR.e] at v1 v2 va vi vn
            clear h1 h2 ha hi hn s1 s2 l1 l2 e1 e2 b1 b2
            cases x <;> cases y <;> exact Ev.run (.en (.f (hs)) <| .subF fl (.en (.v q) <| .nil) <| .subK (.nil) (.nil) <| .en (.r (g1)) <| .en (.r (g2)) <| .en (.f (n1)) <| .en (.f (v1)) <| .en (.f (v2)) <| .en (.f (n2)) <| .en (.f (va)) <| .en (.f (n3)) <| .en (.f (vi)) <| .en (.f (vn)) <| .nil) (by kernel_rfl)
      · have w1 : (r1.e != 0) = false := by simp [b1]
        have w2 : (r2.e != 0) = true := by simp [b2]
        clear h1 h2 ha hi hn
        exact Ev.run (.en (.f (hs)) <| .subF fl (.en (.v q) <| .nil) <| .subK (.nil) (.nil) <| .en (.r (g1)) <| .en (.r (g2)) <| .en (.f (n1)) <| .en (.f (v1)) <| .en (.f (v2)) <| .en (.f (n2)) <| .en (.f (va)) <| .en (.f (n3)) <| .en (.f (vi)) <| .en (.f (vn)) <| .en (.v w1) <| .en (.v w2) <| .en (.f (l1)) <| .en (.f (l2)) <| .nil) (by kernel_rfl)
    · have w1 : (r1.e != 0) = true := by simp [b1]
      clear h1 h2 ha hi hn
      exact Ev.run (.en (.f (hs)) <| .subF fl (.en (.v q) <| .nil) <| .subK (.nil) (.nil) <| .en (.r (g1)) <| .en (.r (g2)) <| .en (.f (n1)) <| .en (.f (v1)) <| .en (.f (v2)) <| .en (.f (n2)) <| .en (.f (va)) <| .en (.f (n3)) <| .en (.f (vi)) <| .en (.f (vn)) <| .en (.v w1) <| .en (.f (l1)) <| .en (.f (l2)) <| .nil) (by kernel_rfl)
  · have q : decide (((t.map (AV.int .i64)).length : Int) ≤ 500) = false := decide_eq_false (by omega)
    exact Ev.run (.en (.f (hs)) <| .subF fl (.en (.v q) <| .nil) <| .nil) (by kernel_rfl)
end Go.AI

