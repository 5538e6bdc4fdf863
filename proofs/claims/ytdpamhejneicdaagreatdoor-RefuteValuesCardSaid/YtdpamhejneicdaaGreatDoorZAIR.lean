/- The abstract machine: scripts that call nobody play out whatever the oracle. -/
import Derived.Test.YtdpamhejneicdaaGreatDoorZAIU
namespace Go.AI
set_option linter.unusedVariables false
set_option linter.unusedSimpArgs false
open Go
variable {G : Prg} {E : EE} {O : Task → Option Res}

def calm : List Ent → Bool
  | [] => true
  | .r _ _ :: _ => false
  | .c _ _ _ :: _ => false
  | _ :: s => calm s

theorem play_any : ∀ (T : Tree) (s : List Ent) (r : Res) (obs : List Prop), calm s = true → play G T s = some (r, obs) → AllP obs → T.run G O = some r := by
  intro T
  induction T with
  | done r0 =>
    intro s r obs hc h _
    cases r0 with
    | none => simp [play] at h
    | some r0 =>
      cases s with
      | nil => simp [play] at h; simp [Tree.run, h.1]
      | cons x s => simp [play] at h
  | ask b k ih =>
    intro s r obs hc h ho
    cases s with
    | nil => simp [play] at h
    | cons x s =>
      cases x with
      | s => simp only [play] at h; exact ih b s r obs hc h ho
      | b c =>
        simp only [play, Option.map_eq_some_iff] at h
        obtain ⟨p, h1, h2⟩ := h
        simp only [Prod.mk.injEq] at h2
        obtain ⟨rfl, rfl⟩ := h2
        obtain ⟨rfl, ho⟩ := ho
        exact ih b s _ _ hc h1 ho
      | _ => simp [play] at h
  | nat n k ih =>
    intro s r obs hc h ho
    cases s with
    | nil => simp [play] at h
    | cons x s =>
      cases x with
      | s =>
        simp only [play] at h
        split at h
        · rename_i h0
          simp only [Tree.run, if_pos h0]; exact ih _ s r obs hc h ho
        · simp at h
      | n c =>
        simp only [play, Option.map_eq_some_iff] at h
        obtain ⟨p, h1, h2⟩ := h
        simp only [Prod.mk.injEq] at h2
        obtain ⟨rfl, rfl⟩ := h2
        obtain ⟨rfl, ho⟩ := ho
        simp only [Tree.run]; rw [if_pos (by omega)]; exact ih c s _ _ hc h1 ho
      | _ => simp [play] at h
  | get ty es i k ih =>
    intro s r obs hc h ho
    cases s with
    | nil => simp [play] at h
    | cons x s =>
      cases x with
      | s =>
        simp only [play] at h
        split at h
        · rename_i a ha
          simp only [Tree.run, ha]; exact ih _ s r obs hc h ho
        · simp at h
      | a v =>
        simp only [play, Option.map_eq_some_iff] at h
        obtain ⟨p, h1, h2⟩ := h
        simp only [Prod.mk.injEq] at h2
        obtain ⟨rfl, rfl⟩ := h2
        obtain ⟨ha, ho⟩ := ho
        simp only [Tree.run, ha]; exact ih v s _ _ hc h1 ho
      | _ => simp [play] at h
  | chk p k ih =>
    intro s r obs hc h ho
    cases s with
    | nil => simp [play] at h
    | cons x s =>
      cases x with
      | s =>
        simp only [play] at h
        split at h
        · rename_i h0
          simp only [Tree.run, if_pos h0]; exact ih s r obs hc h ho
        · simp at h
      | u =>
        simp only [play, Option.map_eq_some_iff] at h
        obtain ⟨q, h1, h2⟩ := h
        simp only [Prod.mk.injEq] at h2
        obtain ⟨rfl, rfl⟩ := h2
        obtain ⟨h0, ho⟩ := ho
        simp only [Tree.run, if_pos h0]; exact ih s _ _ hc h1 ho
      | _ => simp [play] at h
  | box σ id k ih =>
    intro s r obs hc h ho
    cases s with
    | nil => simp [play] at h
    | cons x s =>
      cases x with
      | s =>
        simp only [play] at h
        split at h
        · rename_i cs ow ha
          simp only [Tree.run, ha]; exact ih _ _ s r obs hc h ho
        · simp at h
      | x cs ow =>
        simp only [play, Option.map_eq_some_iff] at h
        obtain ⟨p, h1, h2⟩ := h
        simp only [Prod.mk.injEq] at h2
        obtain ⟨rfl, rfl⟩ := h2
        obtain ⟨ha, ho⟩ := ho
        simp only [Tree.run, ha]; exact ih cs ow s _ _ hc h1 ho
      | _ => simp [play] at h
  | lp σ id k ih =>
    intro s r obs hc h ho
    cases s with
    | nil => simp [play] at h
    | cons x s =>
      cases x with
      | s =>
        simp only [play] at h
        split at h
        · rename_i L ha
          simp only [Tree.run, ha]; exact ih _ s r obs hc h ho
        · simp at h
      | l L =>
        simp only [play, Option.map_eq_some_iff] at h
        obtain ⟨p, h1, h2⟩ := h
        simp only [Prod.mk.injEq] at h2
        obtain ⟨rfl, rfl⟩ := h2
        obtain ⟨ha, ho⟩ := ho
        simp only [Tree.run, ha]; exact ih L s _ _ hc h1 ho
      | _ => simp [play] at h
  | cutq ty agg cs off n k ih =>
    intro s r obs hc h ho
    cases s with
    | nil => simp [play] at h
    | cons x s =>
      cases x with
      | s =>
        simp only [play] at h
        split at h
        · rename_i a ha
          simp only [Tree.run, ha]; exact ih _ s r obs hc h ho
        · simp at h
      | a v =>
        simp only [play, Option.map_eq_some_iff] at h
        obtain ⟨p, h1, h2⟩ := h
        simp only [Prod.mk.injEq] at h2
        obtain ⟨rfl, rfl⟩ := h2
        obtain ⟨ha, ho⟩ := ho
        simp only [Tree.run, ha]; exact ih v s _ _ hc h1 ho
      | _ => simp [play] at h
  | call ty g args σ quiet k ih =>
    intro s r obs hc h ho
    cases s with
    | nil => simp [play] at h
    | cons x s => cases x <;> first | (simp [calm] at hc; done) | (simp [play] at h; done)
  | yield ty l args σ k ih =>
    intro s r obs hc h ho
    cases s with
    | nil => simp [play] at h
    | cons x s => cases x <;> first | (simp [calm] at hc; done) | (simp [play] at h; done)
  | loopc E b ρ σ k ih =>
    intro s r obs hc h ho
    cases s with
    | nil => simp [play] at h
    | cons x s => cases x <;> first | (simp [calm] at hc; done) | (simp [play] at h; done)
  | loopo E b ρ σ k ih =>
    intro s r obs hc h ho
    cases s with
    | nil => simp [play] at h
    | cons x s => cases x <;> first | (simp [calm] at hc; done) | (simp [play] at h; done)

/-- A piece of code that calls nobody. -/
theorem exec_of {c : Code} {ρ ρ' : Env} {σ σ' : Sig} {e : XExit} {obs : List Prop} (s : List Ent) (hc : calm s = true) (h : play G (execT G E c ρ σ fun e ρ σ => .done (some (.code e ρ σ))) s = some (.code e ρ' σ', obs)) (ho : AllP obs) :
    execC G E O c ρ σ = some (e, ρ', σ') := by
  obtain ⟨e1, ρ1, σ1, h1, h2⟩ := run_execT _ _ _ _ (play_any (O := O) _ _ _ _ hc h ho)
  simp only [Tree.run, Option.some.injEq, Res.code.injEq] at h2
  obtain ⟨rfl, rfl, rfl⟩ := h2
  exact h1

end Go.AI
