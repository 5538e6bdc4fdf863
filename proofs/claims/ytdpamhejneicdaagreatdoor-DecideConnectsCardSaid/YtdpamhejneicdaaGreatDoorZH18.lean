/- Depth and work: more of them does no harm; decide answers on what is typed. -/
import Derived.Test.YtdpamhejneicdaaGreatDoorZH17
namespace Go.AI
set_option linter.unusedVariables false
set_option linter.unusedSimpArgs false
open Go

def Le (ev ev' : Tm → VE → Nat → R) : Prop := ∀ t e r res, ev t e r = some res → ev' t e r = some res
theorem bnd_le {x x' : R} {k k' : V → Nat → R} {res : Option (V × Nat)} (h : bnd x k = some res) (hx : ∀ y, x = some y → x' = some y) (hk : ∀ v r, k v r = some res → k' v r = some res) : bnd x' k' = some res := by
  rcases bnd_some h with ⟨h1, rfl⟩ | ⟨v, r, h1, h2⟩
  · rw [hx _ h1]; rfl
  · rw [hx _ h1]; exact hk _ _ h2
theorem Le.ap {ev ev' : Tm → VE → Nat → R} (h : Le ev ev') {f a : V} {r : Nat} {res : Option (V × Nat)} (hx : apV ev f a r = some res) : apV ev' f a r = some res := by
  obtain ⟨b, e, rfl, hx⟩ := apV_some hx
  exact h _ _ _ _ hx
theorem Le.rec_ {ev ev' : Tm → VE → Nat → R} (h : Le ev ev') (f : V) : ∀ (m k : Nat) (acc : V) (r : Nat) (res : Option (V × Nat)), loopRec ev f m k acc r = some res → loopRec ev' f m k acc r = some res
  | 0, _, _, _, _, hx => hx
  | m + 1, k, acc, r, res, hx => bnd_le hx (fun _ => h.ap) fun g r1 hx => bnd_le hx (fun _ => h.ap) fun v r2 hx => rec_ h f m _ _ _ _ hx
theorem Le.fold {ev ev' : Tm → VE → Nat → R} (h : Le ev ev') (f init : V) : ∀ (l : List Nat) (r : Nat) (res : Option (V × Nat)), loopFold ev f init l r = some res → loopFold ev' f init l r = some res
  | [], _, _, hx => hx
  | x :: t, r, res, hx => bnd_le hx (fun _ hy => fold h f init t _ _ hy) fun acc r1 hx => bnd_le hx (fun _ => h.ap) fun g r2 hx => bnd_le hx (fun _ => h.ap) fun g2 r3 hx => h.ap hx
theorem evalM_succ : ∀ n, Le (evalM n) (evalM (n + 1))
  | 0 => fun t e r res h => by cases h
  | n + 1 => fun t e r res h => by
    have ih := evalM_succ n
    cases r with
    | zero => cases t <;> exact h
    | succ r =>
      cases t with
      | var i => simpa only [evalM] using h
      | lam s b => simpa only [evalM] using h
      | zero => simpa only [evalM] using h
      | nil => simpa only [evalM] using h
      | unit => simpa only [evalM] using h
      | fold s a b c => cases h
      | app f a => simp only [evalM] at h ⊢; exact bnd_le h (fun _ => ih _ _ _ _) fun _ _ h => bnd_le h (fun _ => ih _ _ _ _) fun _ _ h => ih.ap h
      | succ a => simp only [evalM] at h ⊢; exact bnd_le h (fun _ => ih _ _ _ _) fun _ _ h => h
      | recN s a b c =>
        simp only [evalM] at h ⊢
        refine bnd_le h (fun _ => ih _ _ _ _) fun _ _ h => bnd_le h (fun _ => ih _ _ _ _) fun _ _ h => bnd_le h (fun _ => ih _ _ _ _) fun vc _ h => ?_
        cases vc with
        | num k =>
          simp only at h ⊢
          split at h
          · rename_i hk; rw [if_pos hk]; exact ih.rec_ _ _ _ _ _ _ h
          · cases h
        | _ => cases h
      | cons a b => simp only [evalM] at h ⊢; exact bnd_le h (fun _ => ih _ _ _ _) fun _ _ h => bnd_le h (fun _ => ih _ _ _ _) fun _ _ h => h
      | pair a b => simp only [evalM] at h ⊢; exact bnd_le h (fun _ => ih _ _ _ _) fun _ _ h => bnd_le h (fun _ => ih _ _ _ _) fun _ _ h => h
      | fst a => simp only [evalM] at h ⊢; exact bnd_le h (fun _ => ih _ _ _ _) fun _ _ h => h
      | snd a => simp only [evalM] at h ⊢; exact bnd_le h (fun _ => ih _ _ _ _) fun _ _ h => h
theorem evalM_fuel {n n' : Nat} (hn : n ≤ n') : Le (evalM n) (evalM n') := by
  induction hn with
  | refl => exact fun _ _ _ _ h => h
  | step _ ih => exact fun t e r res h => evalM_succ _ _ _ _ _ (ih _ _ _ _ h)
theorem evalT_fuel {n n' : Nat} (hn : n ≤ n') {t : Tm} {r : Nat} {res : Option (V × Nat)} (h : evalT n t r = some res) : evalT n' t r = some res := by
  have ih := evalM_fuel hn
  have fin : evalM n t .nil r = some res → evalM n' t .nil r = some res := ih _ _ _ _
  cases t
  case fold s a b c =>
    cases r with
    | zero => simp only [evalT] at h ⊢; exact fin h
    | succ r =>
      simp only [evalT] at h ⊢
      refine bnd_le h (fun _ => ih _ _ _ _) fun _ _ h => bnd_le h (fun _ => ih _ _ _ _) fun _ _ h => bnd_le h (fun _ => ih _ _ _ _) fun vc _ h => ?_
      cases vc with
      | list l =>
        simp only at h ⊢
        split at h
        · rename_i hk; rw [if_pos hk]; exact ih.fold _ _ _ _ _ h
        · cases h
      | _ => cases h
  all_goals (simp only [evalT] at h ⊢; exact fin h)

/-- More work. -/
def Sh (ev : Tm → VE → Nat → R) (q : Nat) : Prop := ∀ t e r v r', ev t e r = some (some (v, r')) → ev t e (r + q) = some (some (v, r' + q))
theorem bnd_sh {x x' : R} {k k' : V → Nat → R} {v : V} {r q : Nat} (h : bnd x k = some (some (v, r))) (hx : ∀ v r, x = some (some (v, r)) → x' = some (some (v, r + q))) (hk : ∀ w s, k w s = some (some (v, r)) → k' w (s + q) = some (some (v, r + q))) : bnd x' k' = some (some (v, r + q)) := by
  obtain ⟨w, s, h1, h2⟩ := bnd_ok h
  rw [hx _ _ h1]; exact hk _ _ h2
theorem Sh.ap {ev : Tm → VE → Nat → R} {q : Nat} (h : Sh ev q) {f a v : V} {r r' : Nat} (hx : apV ev f a r = some (some (v, r'))) : apV ev f a (r + q) = some (some (v, r' + q)) := by
  obtain ⟨b, e, rfl, hx⟩ := apV_some hx
  exact h _ _ _ _ _ hx
theorem Sh.rec_ {ev : Tm → VE → Nat → R} {q : Nat} (h : Sh ev q) (f : V) : ∀ (m k : Nat) (acc : V) (r : Nat) (v : V) (r' : Nat), loopRec ev f m k acc r = some (some (v, r')) → loopRec ev f m k acc (r + q) = some (some (v, r' + q))
  | 0, _, _, _, _, _, hx => by simp only [loopRec, Option.some.injEq, Prod.mk.injEq] at hx ⊢; exact ⟨hx.1, by omega⟩
  | m + 1, k, acc, r, v, r', hx => bnd_sh hx (fun _ _ => h.ap) fun g r1 hx => bnd_sh hx (fun _ _ => h.ap) fun w r2 hx => rec_ h f m _ _ _ _ _ hx
theorem Sh.fold {ev : Tm → VE → Nat → R} {q : Nat} (h : Sh ev q) (f init : V) : ∀ (l : List Nat) (r : Nat) (v : V) (r' : Nat), loopFold ev f init l r = some (some (v, r')) → loopFold ev f init l (r + q) = some (some (v, r' + q))
  | [], _, _, _, hx => by simp only [loopFold, Option.some.injEq, Prod.mk.injEq] at hx ⊢; exact ⟨hx.1, by omega⟩
  | x :: t, r, v, r', hx => bnd_sh hx (fun _ _ hy => fold h f init t _ _ _ hy) fun acc r1 hx => bnd_sh hx (fun _ _ => h.ap) fun g r2 hx => bnd_sh hx (fun _ _ => h.ap) fun g2 r3 hx => h.ap hx
theorem evalM_sh (q : Nat) : ∀ n, Sh (evalM n) q
  | 0 => fun t e r v r' h => by cases h
  | n + 1 => fun t e r v r' h => by
    have ih := evalM_sh q n
    cases r with
    | zero => cases t <;> cases h
    | succ r =>
      rw [show r + 1 + q = (r + q) + 1 by omega]
      cases t with
      | var i =>
        simp only [evalM] at h ⊢
        split at h
        · rename_i hi
          rw [if_pos hi]
          cases hv : e.at i with
          | none => rw [hv] at h; cases h
          | some x => rw [hv] at h; simp only [Option.map_some, Option.some.injEq, Prod.mk.injEq] at h ⊢; exact ⟨h.1, by omega⟩
        · cases h
      | lam s b => simp only [evalM, Option.some.injEq, Prod.mk.injEq] at h ⊢; exact ⟨h.1, by omega⟩
      | zero => simp only [evalM, Option.some.injEq, Prod.mk.injEq] at h ⊢; exact ⟨h.1, by omega⟩
      | nil => simp only [evalM, Option.some.injEq, Prod.mk.injEq] at h ⊢; exact ⟨h.1, by omega⟩
      | unit => simp only [evalM, Option.some.injEq, Prod.mk.injEq] at h ⊢; exact ⟨h.1, by omega⟩
      | fold s a b c => cases h
      | app f a => simp only [evalM] at h ⊢; exact bnd_sh h (fun _ _ => ih _ _ _ _ _) fun _ _ h => bnd_sh h (fun _ _ => ih _ _ _ _ _) fun _ _ h => ih.ap h
      | succ a =>
        simp only [evalM] at h ⊢
        refine bnd_sh h (fun _ _ => ih _ _ _ _ _) fun w _ h => ?_
        cases w with
        | num k =>
          simp only at h ⊢
          split at h
          · rename_i hk; rw [if_pos hk]; simp only [Option.some.injEq, Prod.mk.injEq] at h ⊢; exact ⟨h.1, by omega⟩
          · cases h
        | _ => cases h
      | recN s a b c =>
        simp only [evalM] at h ⊢
        refine bnd_sh h (fun _ _ => ih _ _ _ _ _) fun _ _ h => bnd_sh h (fun _ _ => ih _ _ _ _ _) fun _ _ h => bnd_sh h (fun _ _ => ih _ _ _ _ _) fun vc _ h => ?_
        cases vc with
        | num k =>
          simp only at h ⊢
          split at h
          · rename_i hk; rw [if_pos hk]; exact ih.rec_ _ _ _ _ _ _ _ h
          · cases h
        | _ => cases h
      | cons a b =>
        simp only [evalM] at h ⊢
        refine bnd_sh h (fun _ _ => ih _ _ _ _ _) fun va _ h => bnd_sh h (fun _ _ => ih _ _ _ _ _) fun vb _ h => ?_
        cases va with
        | num k =>
          cases vb with
          | list l => simp only [Option.some.injEq, Prod.mk.injEq] at h ⊢; exact ⟨h.1, by omega⟩
          | _ => cases h
        | _ => cases h
      | pair a b =>
        simp only [evalM] at h ⊢
        refine bnd_sh h (fun _ _ => ih _ _ _ _ _) fun va _ h => bnd_sh h (fun _ _ => ih _ _ _ _ _) fun vb _ h => ?_
        simp only [Option.some.injEq, Prod.mk.injEq] at h ⊢; exact ⟨h.1, by omega⟩
      | fst a =>
        simp only [evalM] at h ⊢
        refine bnd_sh h (fun _ _ => ih _ _ _ _ _) fun w _ h => ?_
        cases w with
        | pair x y => simp only [Option.some.injEq, Prod.mk.injEq] at h ⊢; exact ⟨h.1, by omega⟩
        | _ => cases h
      | snd a =>
        simp only [evalM] at h ⊢
        refine bnd_sh h (fun _ _ => ih _ _ _ _ _) fun w _ h => ?_
        cases w with
        | pair x y => simp only [Option.some.injEq, Prod.mk.injEq] at h ⊢; exact ⟨h.1, by omega⟩
        | _ => cases h
theorem evalT_sh (q n : Nat) {t : Tm} {r : Nat} {v : V} {r' : Nat} (h : evalT n t r = some (some (v, r'))) : evalT n t (r + q) = some (some (v, r' + q)) := by
  have ih := evalM_sh q n
  have fin : evalM n t .nil r = some (some (v, r')) → evalM n t .nil (r + q) = some (some (v, r' + q)) := ih _ _ _ _ _
  cases t
  case fold s a b c =>
    cases r with
    | zero => simp only [evalT] at h; cases n <;> cases h
    | succ r =>
      rw [show r + 1 + q = (r + q) + 1 by omega]
      simp only [evalT] at h ⊢
      refine bnd_sh h (fun _ _ => ih _ _ _ _ _) fun _ _ h => bnd_sh h (fun _ _ => ih _ _ _ _ _) fun _ _ h => bnd_sh h (fun _ _ => ih _ _ _ _ _) fun vc _ h => ?_
      cases vc with
      | list l =>
        simp only at h ⊢
        split at h
        · rename_i hk; rw [if_pos hk]; exact ih.fold _ _ _ _ _ _ h
        · cases h
      | _ => cases h
  all_goals (simp only [evalT] at h ⊢; exact fin h)

/-- Terms without folds, or folds of such. -/
def Tm.n1 : Tm → Prop
  | .fold _ a b c => a.nf ∧ b.nf ∧ c.nf
  | t => t.nf
theorem evalT_snd {n : Nat} {t : Tm} {r : Nat} {s : Ty} (hx : HasTy [] t s) (hn : t.n1) (hs : t.size ≤ 4096) (hr : r < n) (hb : r ≤ 65536) : Out (evalT n t r) 0 r s := by
  have ih := evalM_snd n
  have fin : t.nf → Out (evalM n t .nil r) 0 r s := fun h => ih r hr [] t s .nil 0 hx h (by simp; omega) .nil (by omega)
  cases hx with
  | fold hs' h1 h2 h3 =>
    cases r with
    | zero =>
      simp only [evalT]
      cases n with
      | zero => omega
      | succ n => exact .inl rfl
    | succ r =>
      simp only [evalT]
      simp only [Tm.size] at hs
      refine Out.step ?_
      refine (ih r (by omega) _ _ _ _ 0 h1 hn.1 (by simp; omega) .nil (by omega)).bnd fun va r1 l1 ha => ?_
      refine (ih r1 (by omega) _ _ _ _ (0 + (r - r1)) h2 hn.2.1 (by simp; omega) .nil (by omega)).bnd fun vb r2 l2 hb => ?_
      refine (ih r2 (by omega) _ _ _ _ (0 + (r - r1) + (r1 - r2)) h3 hn.2.2 (by simp; omega) .nil (by omega)).bnd fun vc r3 l3 hc => ?_
      cases hc with
      | @list l hl hl2 =>
        simp only
        rw [if_pos (by omega)]
        exact ih.fold l _ r3 (by omega) (hb.mono (by omega)) (ha.mono (by omega)) hl hl2 (by omega)
  | _ => exact fin hn
end Go.AI

