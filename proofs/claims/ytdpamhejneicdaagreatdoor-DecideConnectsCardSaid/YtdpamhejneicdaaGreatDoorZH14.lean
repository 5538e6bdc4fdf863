/- Decidable formulas typed; put in. -/
import Derived.Test.YtdpamhejneicdaaGreatDoorZH13
namespace Go.AI
set_option linter.unusedVariables false
set_option linter.unusedSimpArgs false
open Go
set_option maxRecDepth 100000
set_option maxHeartbeats 4000000

theorem HasTy.tok {g : List Ty} {x : Tm} {t : Ty} (h : HasTy g x t) : x.tok := by
  induction h with
  | lam hs h ho ih => exact ⟨hs, ih⟩
  | app h1 h2 ih1 ih2 => exact ⟨ih1, ih2⟩
  | succ h ih => exact ih
  | recN hs _ _ _ i1 i2 i3 => exact ⟨hs, i1, i2, i3⟩
  | cons _ _ i1 i2 => exact ⟨i1, i2⟩
  | fold hs _ _ _ i1 i2 i3 => exact ⟨hs, i1, i2, i3⟩
  | pair _ _ ho i1 i2 => exact ⟨i1, i2⟩
  | fst h ih => exact ih
  | snd h ih => exact ih
  | _ => trivial
theorem HasTy.near {g : List Ty} {x : Tm} {t : Ty} (h : HasTy g x t) : ∀ N, g.length + x.size ≤ N → x.near N := by
  induction h with
  | var hi h => intro N hN; simp only [Tm.size] at hN; show _ ≤ N; omega
  | lam hs h ho ih => intro N hN; simp only [Tm.size] at hN; exact ih N (by simp; omega)
  | app h1 h2 ih1 ih2 => intro N hN; simp only [Tm.size] at hN; exact ⟨ih1 N (by omega), ih2 N (by omega)⟩
  | succ h ih => intro N hN; simp only [Tm.size] at hN; exact ih N (by omega)
  | recN hs _ _ _ i1 i2 i3 => intro N hN; simp only [Tm.size] at hN; exact ⟨i1 N (by omega), i2 N (by omega), i3 N (by omega)⟩
  | cons _ _ i1 i2 => intro N hN; simp only [Tm.size] at hN; exact ⟨i1 N (by omega), i2 N (by omega)⟩
  | fold hs _ _ _ i1 i2 i3 => intro N hN; simp only [Tm.size] at hN; exact ⟨i1 N (by omega), i2 N (by omega), i3 N (by omega)⟩
  | pair _ _ ho i1 i2 => intro N hN; simp only [Tm.size] at hN; exact ⟨i1 N (by omega), i2 N (by omega)⟩
  | fst h ih => intro N hN; simp only [Tm.size] at hN; exact ih N (by omega)
  | snd h ih => intro N hN; simp only [Tm.size] at hN; exact ih N (by omega)
  | _ => intro N hN; trivial
/-- A closed term is closed. -/
theorem HasTy.up {g : List Ty} {x : Tm} {t : Ty} (h : HasTy g x t) : ∀ n m, g.length ≤ m → x.up n m = x := by
  induction h with
  | var hi h => intro n m hm; simp only [Tm.up]; rw [if_neg (by omega)]
  | lam hs h ho ih => intro n m hm; simp only [Tm.up]; rw [ih n (m + 1) (by simp; omega)]
  | app h1 h2 ih1 ih2 => intro n m hm; simp only [Tm.up]; rw [ih1 n m hm, ih2 n m hm]
  | succ h ih => intro n m hm; simp only [Tm.up]; rw [ih n m hm]
  | recN hs _ _ _ i1 i2 i3 => intro n m hm; simp only [Tm.up]; rw [i1 n m hm, i2 n m hm, i3 n m hm]
  | cons _ _ i1 i2 => intro n m hm; simp only [Tm.up]; rw [i1 n m hm, i2 n m hm]
  | fold hs _ _ _ i1 i2 i3 => intro n m hm; simp only [Tm.up]; rw [i1 n m hm, i2 n m hm, i3 n m hm]
  | pair _ _ ho i1 i2 => intro n m hm; simp only [Tm.up]; rw [i1 n m hm, i2 n m hm]
  | fst h ih => intro n m hm; simp only [Tm.up]; rw [ih n m hm]
  | snd h ih => intro n m hm; simp only [Tm.up]; rw [ih n m hm]
  | _ => intro n m hm; rfl
theorem HasTy.weaken {g : List Ty} {x : Tm} {t : Ty} (h : HasTy g x t) (g' : List Ty) : HasTy (g' ++ g) x t := by
  induction h with
  | @var g i t hi h =>
    refine .var (by simp; omega) ?_
    rw [List.length_append, List.getElem?_append_right (by omega), show g'.length + g.length - 1 - i - g'.length = g.length - 1 - i by omega]
    exact h
  | lam hs h ho ih => exact .lam hs (by simpa using ih) ho
  | app h1 h2 ih1 ih2 => exact .app ih1 ih2
  | zero => exact .zero
  | succ h ih => exact .succ ih
  | recN hs _ _ _ i1 i2 i3 => exact .recN hs i1 i2 i3
  | nil => exact .nil
  | cons _ _ i1 i2 => exact .cons i1 i2
  | fold hs _ _ _ i1 i2 i3 => exact .fold hs i1 i2 i3
  | pair _ _ ho i1 i2 => exact .pair i1 i2 ho
  | fst h ih => exact .fst ih
  | snd h ih => exact .snd ih
  | unit => exact .unit
/-- A closed term put in. -/
theorem HasTy.put {g1 : List Ty} {s : Ty} {u : Tm} (hu : HasTy [] u s) {x : Tm} {t : Ty} {g : List Ty} (h : HasTy g x t) : ∀ g2, g = g1 ++ [s] ++ g2 → HasTy (g1 ++ g2) (x.put u g2.length) t := by
  induction h with
  | @var g i t hi h =>
    intro g2 hg
    subst hg
    simp only [Tm.put]
    have hlen : (g1 ++ [s] ++ g2).length = g1.length + 1 + g2.length := by simp; omega
    rw [hlen] at h hi
    by_cases h1 : i = g2.length
    · subst h1
      rw [if_pos rfl, hu.up _ _ (by simp)]
      have : s = t := by
        rw [show g1.length + 1 + g2.length - 1 - g2.length = g1.length by omega, List.getElem?_append_left (by simp), List.getElem?_append_right (by omega)] at h
        simpa using h
      subst this
      have := hu.weaken (g1 ++ g2)
      simpa using this
    · rw [if_neg h1]
      by_cases h2 : g2.length < i
      · rw [if_pos h2]
        refine .var (by simp; omega) ?_
        rw [List.length_append]
        rw [List.getElem?_append_left (by simp; omega), List.getElem?_append_left (by omega)] at h
        rw [List.getElem?_append_left (by omega), ← h]
        congr 1
        omega
      · rw [if_neg h2]
        refine .var (by simp; omega) ?_
        rw [List.length_append]
        rw [List.getElem?_append_right (by simp; omega)] at h
        rw [List.getElem?_append_right (by omega), ← h]
        congr 1
        simp
        omega
  | @lam g s' r' b' hs h ho ih =>
    intro g2 hg
    simp only [Tm.put]
    refine .lam hs ?_ ho
    have := ih (g2 ++ [s']) (by rw [hg]; simp)
    simpa using this
  | app h1 h2 ih1 ih2 => intro g2 hg; exact .app (ih1 g2 hg) (ih2 g2 hg)
  | zero => intro g2 hg; exact .zero
  | succ h ih => intro g2 hg; exact .succ (ih g2 hg)
  | recN hs _ _ _ i1 i2 i3 => intro g2 hg; exact .recN hs (i1 g2 hg) (i2 g2 hg) (i3 g2 hg)
  | nil => intro g2 hg; exact .nil
  | cons _ _ i1 i2 => intro g2 hg; exact .cons (i1 g2 hg) (i2 g2 hg)
  | fold hs _ _ _ i1 i2 i3 => intro g2 hg; exact .fold hs (i1 g2 hg) (i2 g2 hg) (i3 g2 hg)
  | pair _ _ ho i1 i2 => intro g2 hg; exact .pair (i1 g2 hg) (i2 g2 hg) ho
  | fst h ih => intro g2 hg; exact .fst (ih g2 hg)
  | snd h ih => intro g2 hg; exact .snd (ih g2 hg)
  | unit => intro g2 hg; exact .unit

theorem mulsub (a b s : Nat) : (a + b) * s = a * s + b * s := Nat.add_mul a b s
/-- How large a closed term makes another one. -/
theorem Tm.put_size {u : Tm} {s : Ty} (hu : HasTy [] u s) : ∀ (x : Tm) (m : Nat), (x.put u m).size = x.size + x.cnt m * (u.size - 1)
  | .var i, m => by
    have := u.size_pos
    simp only [Tm.put, Tm.cnt]
    split
    · rw [hu.up _ _ (by simp)]; simp only [Tm.size]; omega
    · split <;> simp [Tm.size]
  | .lam _ a, m => by simp only [Tm.put, Tm.cnt, Tm.size]; rw [put_size hu a]; omega
  | .app a b, m => by simp only [Tm.put, Tm.cnt, Tm.size]; rw [put_size hu a, put_size hu b, mulsub]; omega
  | .zero, m => by simp [Tm.put, Tm.cnt]
  | .succ a, m => by simp only [Tm.put, Tm.cnt, Tm.size]; rw [put_size hu a]; omega
  | .recN _ a b c, m => by simp only [Tm.put, Tm.cnt, Tm.size]; rw [put_size hu a, put_size hu b, put_size hu c, mulsub, mulsub]; omega
  | .nil, m => by simp [Tm.put, Tm.cnt]
  | .cons a b, m => by simp only [Tm.put, Tm.cnt, Tm.size]; rw [put_size hu a, put_size hu b, mulsub]; omega
  | .fold _ a b c, m => by simp only [Tm.put, Tm.cnt, Tm.size]; rw [put_size hu a, put_size hu b, put_size hu c, mulsub, mulsub]; omega
  | .pair a b, m => by simp only [Tm.put, Tm.cnt, Tm.size]; rw [put_size hu a, put_size hu b, mulsub]; omega
  | .fst a, m => by simp only [Tm.put, Tm.cnt, Tm.size]; rw [put_size hu a]; omega
  | .snd a, m => by simp only [Tm.put, Tm.cnt, Tm.size]; rw [put_size hu a]; omega
  | .unit, m => by simp [Tm.put, Tm.cnt]
theorem Fm.put_size {u : Tm} {s : Ty} (hu : HasTy [] u s) : ∀ (f : Fm) (m : Nat), (f.put u m).size = f.size + f.cnt m * (u.size - 1)
  | .eq a b, m => by simp only [Fm.put, Fm.cnt, Fm.size]; rw [Tm.put_size hu a, Tm.put_size hu b, mulsub]; omega
  | .two _ a b, m => by simp only [Fm.put, Fm.cnt, Fm.size]; rw [put_size hu a, put_size hu b, mulsub]; omega
  | .q _ _ a, m => by simp only [Fm.put, Fm.cnt, Fm.size]; rw [put_size hu a]; omega

/-- Lifted and put in, in any order. -/
theorem Tm.up_put {u : Tm} {s : Ty} (hu : HasTy [] u s) : ∀ (x : Tm) (m d : Nat), (x.up 1 d).put u (m + d + 1) = (x.put u (m + d)).up 1 d
  | .var i, m, d => by
    simp only [Tm.up, Tm.put]
    by_cases h1 : i = m + d
    · rw [if_pos h1, if_pos (show (if d ≤ i then i + 1 else i) = m + d + 1 by split <;> omega), hu.up _ _ (by simp), hu.up _ _ (by simp), hu.up _ _ (by simp)]
    · rw [if_neg h1, if_neg (show ¬ (if d ≤ i then i + 1 else i) = m + d + 1 by split <;> omega)]
      by_cases h2 : m + d < i
      · rw [if_pos h2, if_pos (show m + d + 1 < (if d ≤ i then i + 1 else i) by split <;> omega)]
        simp only [Tm.up]
        rw [if_pos (show d ≤ i - 1 by omega), if_pos (show d ≤ i by omega)]
        congr 1
        omega
      · rw [if_neg h2, if_neg (show ¬ m + d + 1 < (if d ≤ i then i + 1 else i) by split <;> omega)]
        simp only [Tm.up]
  | .lam _ a, m, d => by simp only [Tm.up, Tm.put]; rw [show m + d + 1 + 1 = m + (d + 1) + 1 by omega, up_put hu a m (d + 1), show m + (d + 1) = m + d + 1 by omega]
  | .app a b, m, d => by simp only [Tm.up, Tm.put]; rw [up_put hu a, up_put hu b]
  | .zero, m, d => rfl
  | .succ a, m, d => by simp only [Tm.up, Tm.put]; rw [up_put hu a]
  | .recN _ a b c, m, d => by simp only [Tm.up, Tm.put]; rw [up_put hu a, up_put hu b, up_put hu c]
  | .nil, m, d => rfl
  | .cons a b, m, d => by simp only [Tm.up, Tm.put]; rw [up_put hu a, up_put hu b]
  | .fold _ a b c, m, d => by simp only [Tm.up, Tm.put]; rw [up_put hu a, up_put hu b, up_put hu c]
  | .pair a b, m, d => by simp only [Tm.up, Tm.put]; rw [up_put hu a, up_put hu b]
  | .fst a, m, d => by simp only [Tm.up, Tm.put]; rw [up_put hu a]
  | .snd a, m, d => by simp only [Tm.up, Tm.put]; rw [up_put hu a]
  | .unit, m, d => rfl

/-! ### Decidable formulas -/

def DFm.put : DFm → Tm → Nat → DFm
  | .eq s t, u, m => .eq (s.put u m) (t.put u m)
  | .two j a b, u, m => .two j (a.put u m) (b.put u m)
  | .bnd all t b, u, m => .bnd all (t.put u m) (b.put u (m + 1))
theorem subM_put (u : Tm) (m : Nat) : subM.put u m = subM := by
  simp [subM, predM, Tm.put]
theorem DFm.put_fm {u : Tm} {s : Ty} (hu : HasTy [] u s) : ∀ (d : DFm) (m : Nat), (d.put u m).fm = d.fm.put u m
  | .eq s t, m => rfl
  | .two j a b, m => by simp only [DFm.put, DFm.fm, Fm.put]; rw [put_fm hu a, put_fm hu b]
  | .bnd all t b, m => by
    simp only [DFm.put, DFm.fm, bndM, Fm.put, lessM, Tm.put]
    rw [put_fm hu b, subM_put]
    have := Tm.up_put hu t m 0
    simp only [Nat.add_zero] at this
    rw [this]
    simp
def DT : List Ty → DFm → Prop
  | g, .eq s t => HasTy g s .nat ∧ HasTy g t .nat
  | g, .two _ a b => DT g a ∧ DT g b
  | g, .bnd _ t b => HasTy g t .nat ∧ DT (g ++ [.nat]) b
theorem DT.put {g1 : List Ty} {s : Ty} {u : Tm} (hu : HasTy [] u s) : ∀ (d : DFm) (g2 : List Ty), DT (g1 ++ [s] ++ g2) d → DT (g1 ++ g2) (d.put u g2.length)
  | .eq a b, g2, h => ⟨hu.put h.1 g2 rfl, hu.put h.2 g2 rfl⟩
  | .two _ a b, g2, h => ⟨DT.put hu a g2 h.1, DT.put hu b g2 h.2⟩
  | .bnd _ t b, g2, h => ⟨hu.put h.1 g2 rfl, by
    have := DT.put hu b (g2 ++ [.nat]) (by simpa using h.2)
    simpa using this⟩
theorem HasTy.up1 {g1 : List Ty} (s : Ty) {x : Tm} {t : Ty} {g : List Ty} (h : HasTy g x t) : ∀ g2, g = g1 ++ g2 → HasTy (g1 ++ [s] ++ g2) (x.up 1 g2.length) t := by
  induction h with
  | @var g i t hi h =>
    intro g2 hg
    subst hg
    simp only [Tm.up]
    rw [List.length_append] at h hi
    by_cases h1 : g2.length ≤ i
    · rw [if_pos h1]
      refine .var (by simp; omega) ?_
      rw [List.getElem?_append_left (by omega)] at h
      simp only [List.length_append, List.length_cons, List.length_nil]
      rw [List.getElem?_append_left (by simp; omega), List.getElem?_append_left (by omega), ← h]
      congr 1
      omega
    · rw [if_neg h1]
      refine .var (by simp; omega) ?_
      rw [List.getElem?_append_right (by omega)] at h
      simp only [List.length_append, List.length_cons, List.length_nil]
      rw [List.getElem?_append_right (by simp; omega), ← h]
      congr 1
      simp
      omega
  | @lam g s' r' b' hs h ho ih =>
    intro g2 hg
    simp only [Tm.up]
    refine .lam hs ?_ ho
    have := ih (g2 ++ [s']) (by rw [hg]; simp)
    simpa using this
  | app h1 h2 ih1 ih2 => intro g2 hg; exact .app (ih1 g2 hg) (ih2 g2 hg)
  | zero => intro g2 hg; exact .zero
  | succ h ih => intro g2 hg; exact .succ (ih g2 hg)
  | recN hs _ _ _ i1 i2 i3 => intro g2 hg; exact .recN hs (i1 g2 hg) (i2 g2 hg) (i3 g2 hg)
  | nil => intro g2 hg; exact .nil
  | cons _ _ i1 i2 => intro g2 hg; exact .cons (i1 g2 hg) (i2 g2 hg)
  | fold hs _ _ _ i1 i2 i3 => intro g2 hg; exact .fold hs (i1 g2 hg) (i2 g2 hg) (i3 g2 hg)
  | pair _ _ ho i1 i2 => intro g2 hg; exact .pair (i1 g2 hg) (i2 g2 hg) ho
  | fst h ih => intro g2 hg; exact .fst (ih g2 hg)
  | snd h ih => intro g2 hg; exact .snd (ih g2 hg)
  | unit => intro g2 hg; exact .unit
theorem nat_ok : Ty.nat.ok := by simp [Ty.ok, Ty.size]
theorem fn_nat_ok : (Ty.fn .nat .nat).ok := by simp [Ty.ok, Ty.size]
theorem fn2_nat_ok : (Ty.fn .nat (Ty.fn .nat .nat)).ok := by simp [Ty.ok, Ty.size]
theorem predM_ty (g : List Ty) : HasTy g predM (.fn .nat .nat) := by
  refine .lam nat_ok (.recN nat_ok .zero (.lam nat_ok (.lam nat_ok (.var (by simp) ?_) fn_nat_ok) fn2_nat_ok) (.var (by simp) ?_)) fn_nat_ok
  · simp
  · simp
theorem plusM_ty (g : List Ty) : HasTy g plusM (.fn .nat (.fn .nat .nat)) := by
  refine .lam nat_ok (.lam nat_ok (.recN nat_ok (.var (by simp) ?_) (.lam nat_ok (.lam nat_ok (.succ (.var (by simp) ?_)) fn_nat_ok) fn2_nat_ok) (.var (by simp) ?_)) fn_nat_ok) fn2_nat_ok
  · simp
  · simp
  · simp
theorem subM_ty (g : List Ty) : HasTy g subM (.fn .nat (.fn .nat .nat)) := by
  refine .lam nat_ok (.lam nat_ok (.recN nat_ok (.var (by simp) ?_) (.lam nat_ok (.lam nat_ok (.app (predM_ty _) (.var (by simp) ?_)) fn_nat_ok) fn2_nat_ok) (.var (by simp) ?_)) fn_nat_ok) fn2_nat_ok
  · simp
  · simp
  · simp
theorem lessM_ty {g : List Ty} {s t : Tm} (hs : HasTy g s .nat) (ht : HasTy g t .nat) : HasF g (lessM s t) := .eq (.app (.app (subM_ty g) (.succ hs)) ht) .zero
theorem DT.hasF : ∀ {d : DFm} {g : List Ty}, DT g d → HasF g d.fm
  | .eq s t, g, h => .eq h.1 h.2
  | .two j a b, g, h => .two (hasF h.1) (hasF h.2)
  | .bnd all t b, g, h => by
    refine .q nat_ok (.two (lessM_ty (.var (by simp) (by simp)) ?_) (hasF h.2))
    have := HasTy.up1 (g1 := g) .nat h.1 [] (by simp)
    simpa using this
theorem HasF.tok {g : List Ty} {f : Fm} (h : HasF g f) : f.tok := by
  induction h with
  | eq h1 h2 => exact ⟨h1.tok, h2.tok⟩
  | two _ _ i1 i2 => exact ⟨i1, i2⟩
  | q hs _ ih => exact ⟨hs, ih⟩
theorem HasF.near {g : List Ty} {f : Fm} (h : HasF g f) : ∀ N, g.length + f.size ≤ N → f.near N := by
  induction h with
  | eq h1 h2 => intro N hN; simp only [Fm.size] at hN; exact ⟨h1.near N (by omega), h2.near N (by omega)⟩
  | two _ _ i1 i2 => intro N hN; simp only [Fm.size] at hN; exact ⟨i1 N (by omega), i2 N (by omega)⟩
  | q hs _ ih => intro N hN; simp only [Fm.size] at hN; exact ih N (by simp; omega)
theorem DT.wf : ∀ {d : DFm} {g : List Ty}, DT g d → g.length + d.fm.size ≤ 2 ^ 28 → d.wf
  | .eq s t, g, h, _ => trivial
  | .two j a b, g, h, hs => by simp only [DFm.fm, Fm.size] at hs; exact ⟨wf h.1 (by omega), wf h.2 (by omega)⟩
  | .bnd all t b, g, h, hs => by
    simp only [DFm.fm, bndM_size] at hs
    exact ⟨h.1.near _ (by omega), by omega, wf h.2 (by simp; omega)⟩
theorem num_ty : ∀ (n : Nat) (x : Tm) (g : List Ty), HasTy g x .nat → HasTy g (Tm.succs n x) .nat
  | 0, _, _, h => h
  | n + 1, _, g, h => num_ty n _ g (.succ h)
theorem Tm.num_ty (n : Nat) (g : List Ty) : HasTy g (Tm.num n) .nat := Go.AI.num_ty n _ g .zero
theorem succs_size : ∀ (n : Nat) (x : Tm), (Tm.succs n x).size = x.size + n
  | 0, _ => rfl
  | n + 1, x => by simp only [Tm.succs]; rw [succs_size n]; simp only [Tm.size]; omega
theorem Tm.num_size (n : Nat) : (Tm.num n).size = n + 1 := by rw [Tm.num, succs_size]; simp only [Tm.size]; omega
end Go.AI

