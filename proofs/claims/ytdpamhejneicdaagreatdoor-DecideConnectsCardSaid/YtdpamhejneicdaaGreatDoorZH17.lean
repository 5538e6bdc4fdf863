/- The machine is never stuck on typed terms; more work does no harm. -/
import Derived.Test.YtdpamhejneicdaaGreatDoorZH15
namespace Go.AI
set_option linter.unusedVariables false
set_option linter.unusedSimpArgs false
open Go

/-- No fold. -/
def Tm.nf : Tm → Prop
  | .lam _ b => b.nf
  | .app f a => f.nf ∧ a.nf
  | .succ a => a.nf
  | .recN _ a b c => a.nf ∧ b.nf ∧ c.nf
  | .cons a b => a.nf ∧ b.nf
  | .fold _ _ _ _ => False
  | .pair a b => a.nf ∧ b.nf
  | .fst a => a.nf
  | .snd a => a.nf
  | _ => True

mutual
inductive VT : Nat → V → Ty → Prop where
  | num {C n : Nat} (h : n ≤ C) : VT C (.num n) .nat
  | list {C : Nat} {l : List Nat} (h : ∀ x ∈ l, x ≤ C) (hl : l.length ≤ C) : VT C (.list l) .list
  | pair {C : Nat} {a b : V} {s t : Ty} (ha : VT C a s) (hb : VT C b t) : VT C (.pair a b) (.pair s t)
  | unit {C : Nat} : VT C .unit .unit
  | clo {C : Nat} {g : List Ty} {s r : Ty} {b : Tm} {e : VE} (hb : HasTy (g ++ [s]) b r) (hn : b.nf) (hs : g.length + 1 + b.size < 2 ^ 42) (he : ET C e g) : VT C (.clo b e) (.fn s r)
inductive ET : Nat → VE → List Ty → Prop where
  | nil {C : Nat} : ET C .nil []
  | cons {C : Nat} {v : V} {s : Ty} {e : VE} {g : List Ty} (hv : VT C v s) (he : ET C e g) : ET C (.cons v e) (g ++ [s])
end
mutual
theorem VT.mono {C C' : Nat} (h : C ≤ C') : ∀ {v : V} {t : Ty}, VT C v t → VT C' v t
  | _, _, .num hn => .num (Nat.le_trans hn h)
  | _, _, .list hl hl2 => .list (fun x hx => Nat.le_trans (hl x hx) h) (Nat.le_trans hl2 h)
  | _, _, .pair ha hb => .pair (ha.mono h) (hb.mono h)
  | _, _, .unit => .unit
  | _, _, .clo hb hn hs he => .clo hb hn hs (he.mono h)
theorem ET.mono {C C' : Nat} (h : C ≤ C') : ∀ {e : VE} {g : List Ty}, ET C e g → ET C' e g
  | _, _, .nil => .nil
  | _, _, .cons hv he => .cons (hv.mono h) (he.mono h)
end
theorem ET.at {C : Nat} : ∀ {e : VE} {g : List Ty} {i : Nat} {t : Ty}, ET C e g → i < g.length → g[g.length - 1 - i]? = some t → ∃ v, e.at i = some v ∧ VT C v t
  | _, _, i, t, .nil, hi, _ => by simp at hi
  | _, _, 0, t, .cons (v := v) (s := s) (g := g) hv he, hi, h => by
    simp only [List.length_append, List.length_cons, List.length_nil] at h
    rw [List.getElem?_append_right (by omega)] at h
    have : s = t := by simpa using h
    subst this
    exact ⟨v, rfl, hv⟩
  | _, _, i + 1, t, .cons (v := v) (s := s) (e := e) (g := g) hv he, hi, h => by
    simp only [List.length_append, List.length_cons, List.length_nil] at h hi
    rw [List.getElem?_append_left (by omega), show g.length + (0 + 1) - 1 - (i + 1) = g.length - 1 - i by omega] at h
    exact he.at (by omega) h

def Out (x : R) (C r : Nat) (t : Ty) : Prop := x = some none ∨ ∃ v r', x = some (some (v, r')) ∧ r' ≤ r ∧ VT (C + (r - r')) v t
theorem Out.bnd {x : R} {C r : Nat} {s t : Ty} {k : V → Nat → R} (hx : Out x C r s) (hk : ∀ v r1, r1 ≤ r → VT (C + (r - r1)) v s → Out (k v r1) (C + (r - r1)) r1 t) : Out (bnd x k) C r t := by
  rcases hx with rfl | ⟨v, r1, rfl, h1, h2⟩
  · exact .inl rfl
  · rcases hk v r1 h1 h2 with h | ⟨v2, r2, h3, h4, h5⟩
    · exact .inl h
    · exact .inr ⟨v2, r2, h3, by omega, by rw [show C + (r - r1) + (r1 - r2) = C + (r - r2) by omega] at h5; exact h5⟩
theorem Out.ret {C r : Nat} {v : V} {t : Ty} (h : VT C v t) : Out (some (some (v, r))) C r t := .inr ⟨v, r, rfl, Nat.le_refl _, h.mono (by omega)⟩

/-- What an evaluator does on typed terms, up to some work. -/
def Snd (ev : Tm → VE → Nat → R) (n : Nat) : Prop := ∀ (r : Nat), r < n → ∀ (g : List Ty) (x : Tm) (t : Ty) (e : VE) (C : Nat), HasTy g x t → x.nf → g.length + x.size < 2 ^ 42 → ET C e g → C + r ≤ 2 ^ 40 → Out (ev x e r) C r t
theorem Snd.ap {ev : Tm → VE → Nat → R} {n : Nat} (h : Snd ev n) {f a : V} {s t : Ty} {C r : Nat} (hr : r < n) (hf : VT C f (.fn s t)) (ha : VT C a s) (hC : C + r ≤ 2 ^ 40) : Out (apV ev f a r) C r t := by
  cases hf with
  | @clo g _ _ b e hb hn hs he => exact h r hr _ b t _ C hb hn (by simp; omega) (.cons ha he) hC
theorem Snd.rec_ {ev : Tm → VE → Nat → R} {n : Nat} (h : Snd ev n) {f : V} {t : Ty} : ∀ (m k : Nat) (acc : V) (C r : Nat), r < n → VT C f (.fn .nat (.fn t t)) → VT C acc t → k + m ≤ C → C + r ≤ 2 ^ 40 → Out (loopRec ev f m k acc r) C r t
  | 0, k, acc, C, r, hr, hf, ha, hk, hC => .ret ha
  | m + 1, k, acc, C, r, hr, hf, ha, hk, hC => by
    refine (h.ap hr hf (.num (by omega)) hC).bnd fun g r1 h1 hg => ?_
    refine (h.ap (by omega) hg (ha.mono (by omega)) (by omega)).bnd fun v r2 h2 hv => ?_
    exact rec_ h m (k + 1) v _ r2 (by omega) (hf.mono (by omega)) hv (by omega) (by omega)
theorem Snd.step {ev : Tm → VE → Nat → R} {n : Nat} (h : Snd ev n) {f : V} {t : Ty} {x : Nat} {l : List Nat} {acc : V} {C r : Nat} (hr : r < n) (hf : VT C f (.fn .nat (.fn .list (.fn t t)))) (ha : VT C acc t) (hx : x ≤ C) (hl : ∀ y ∈ l, y ≤ C) (hl2 : l.length ≤ C) (hC : C + r ≤ 2 ^ 40) :
    Out (foldStep ev f x l acc r) C r t := by
  refine (h.ap hr hf (.num hx) hC).bnd fun g r1 h1 hg => ?_
  refine (h.ap (by omega) hg (.list (fun y hy => by have := hl y hy; omega) (by omega)) (by omega)).bnd fun g2 r2 h2 hg2 => ?_
  exact h.ap (by omega) hg2 (ha.mono (by omega)) (by omega)
theorem Snd.fold {ev : Tm → VE → Nat → R} {n : Nat} (h : Snd ev n) {f init : V} {t : Ty} : ∀ (l : List Nat) (C r : Nat), r < n → VT C f (.fn .nat (.fn .list (.fn t t))) → VT C init t → (∀ y ∈ l, y ≤ C) → l.length ≤ C → C + r ≤ 2 ^ 40 → Out (loopFold ev f init l r) C r t
  | [], C, r, hr, hf, hi, hl, hl2, hC => .ret hi
  | x :: l, C, r, hr, hf, hi, hl, hl2, hC => by
    simp only [loopFold]
    refine (fold h l C r hr hf hi (fun y hy => hl y (by simp [hy])) (by simp at hl2; omega) hC).bnd fun acc r1 h1 ha => ?_
    exact h.step (by omega) (hf.mono (by omega)) ha (by have := hl x (by simp); omega) (fun y hy => by have := hl y (by simp [hy]); omega) (by simp at hl2; omega) (by omega)
theorem big_eq : big = 2 ^ 61 := rfl
theorem Out.step {x : R} {C r : Nat} {t : Ty} (h : Out x C r t) : Out x C (r + 1) t := by
  rcases h with h | ⟨v, r', h1, h2, h3⟩
  · exact .inl h
  · exact .inr ⟨v, r', h1, by omega, h3.mono (by omega)⟩
theorem evalM_snd : ∀ n, Snd (evalM n) n
  | 0 => fun r hr => by omega
  | n + 1 => fun r hr g x t e C hx hn hs he hC => by
    have ih := evalM_snd n
    cases r with
    | zero => left; cases x <;> rfl
    | succ r =>
      have hr' : r < n := by omega
      cases hx with
      | @var _ i _ hi h =>
        simp only [evalM]
        obtain ⟨v, h1, h2⟩ := he.at hi h
        rw [if_pos (by rw [big_eq]; simp only [Tm.size] at hs; omega), h1]
        exact (Out.ret h2).step
      | lam hs' h ho =>
        simp only [evalM]
        simp only [Tm.size] at hs
        exact (Out.ret (.clo h hn (by omega) he)).step
      | app h1 h2 =>
        simp only [evalM]
        simp only [Tm.size] at hs
        refine Out.step ?_
        refine (ih r hr' _ _ _ _ C h1 hn.1 (by omega) he (by omega)).bnd fun vf r1 l1 hf => ?_
        refine (ih r1 (by omega) _ _ _ _ _ h2 hn.2 (by omega) (he.mono (by omega)) (by omega)).bnd fun va r2 l2 ha => ?_
        exact ih.ap (by omega) (hf.mono (by omega)) ha (by omega)
      | zero => simp only [evalM]; exact (Out.ret (.num (by omega))).step
      | nil => simp only [evalM]; exact (Out.ret (.list (by simp) (by simp))).step
      | unit => simp only [evalM]; exact (Out.ret .unit).step
      | succ h =>
        simp only [evalM]
        simp only [Tm.size] at hs
        rcases ih r hr' _ _ _ _ C h hn (by omega) he (by omega) with h1 | ⟨v, r1, h1, l1, hv⟩
        · rw [h1]; exact .inl rfl
        · rw [h1]
          cases hv with
          | @num k hk =>
            simp only [Go.AI.bnd]
            rw [if_pos (by rw [big_eq]; omega)]
            exact .inr ⟨_, r1, rfl, by omega, .num (by omega)⟩
      | recN hs' h1 h2 h3 =>
        simp only [evalM]
        simp only [Tm.size] at hs
        refine Out.step ?_
        refine (ih r hr' _ _ _ _ C h1 hn.1 (by omega) he (by omega)).bnd fun va r1 l1 ha => ?_
        refine (ih r1 (by omega) _ _ _ _ _ h2 hn.2.1 (by omega) (he.mono (by omega)) (by omega)).bnd fun vb r2 l2 hb => ?_
        refine (ih r2 (by omega) _ _ _ _ _ h3 hn.2.2 (by omega) (he.mono (by omega)) (by omega)).bnd fun vc r3 l3 hc => ?_
        cases hc with
        | @num k hk =>
          simp only
          rw [if_pos (by rw [big_eq]; omega)]
          exact ih.rec_ k 0 va _ r3 (by omega) (hb.mono (by omega)) (ha.mono (by omega)) (by omega) (by omega)
      | cons h1 h2 =>
        simp only [evalM]
        simp only [Tm.size] at hs
        rcases ih r hr' _ _ _ _ C h1 hn.1 (by omega) he (by omega) with q1 | ⟨va, r1, q1, l1, ha⟩
        · rw [q1]; exact .inl rfl
        · rw [q1]
          simp only [Go.AI.bnd]
          rcases ih r1 (by omega) _ _ _ _ (C + (r - r1)) h2 hn.2 (by omega) (he.mono (by omega)) (by omega) with q2 | ⟨vb, r2, q2, l2, hb⟩
          · rw [q2]; exact .inl rfl
          · rw [q2]
            cases ha with
            | @num k hk =>
              cases hb with
              | @list l hl hl2 =>
                simp only
                refine .inr ⟨_, r2, rfl, by omega, .list (fun x hx => ?_) (by simp; omega)⟩
                rcases List.mem_cons.1 hx with rfl | hx
                · omega
                · have := hl x hx; omega
      | fold => exact hn.elim
      | pair h1 h2 ho =>
        simp only [evalM]
        simp only [Tm.size] at hs
        refine Out.step ?_
        refine (ih r hr' _ _ _ _ C h1 hn.1 (by omega) he (by omega)).bnd fun va r1 l1 ha => ?_
        refine (ih r1 (by omega) _ _ _ _ _ h2 hn.2 (by omega) (he.mono (by omega)) (by omega)).bnd fun vb r2 l2 hb => ?_
        exact .ret (.pair (ha.mono (by omega)) hb)
      | fst h =>
        simp only [evalM]
        simp only [Tm.size] at hs
        refine Out.step ?_
        refine (ih r hr' _ _ _ _ C h hn (by omega) he (by omega)).bnd fun va r1 l1 ha => ?_
        cases ha with
        | pair ha hb => exact .ret ha
      | snd h =>
        simp only [evalM]
        simp only [Tm.size] at hs
        refine Out.step ?_
        refine (ih r hr' _ _ _ _ C h hn (by omega) he (by omega)).bnd fun va r1 l1 ha => ?_
        cases ha with
        | pair ha hb => exact .ret hb
end Go.AI

