/- The abstract machine: the tree of questions says what the evaluator does; a script that answers it. -/
import Derived.Test.YtdpamhejneicdaaGreatDoorZAIT
namespace Go.AI
set_option linter.unusedVariables false
set_option linter.unusedSimpArgs false
open Go

variable {G : Prg} {E : EE} {O : Task → Option Res} {ops : Array Oper} {quiet : Bool} {o : Oper} {ρ : Env} {σ : Sig} {r : Res}

theorem run_dflt {k : List (Nat × Slot) → Sig → Tree} (h : (dfltT G E o ρ σ k).run G O = some r) : ∃ u s, stepNC G E o ρ σ = some (u, s) ∧ (k u s).run G O = some r := by
  unfold dfltT at h
  split at h
  · rename_i u s hs
    exact ⟨u, s, hs, h⟩
  · simp [Tree.run] at h

theorem run_natOf {y : Option Operand} {d : Nat} {k : Nat → Tree} (h : (natOf G ρ y d k).run G O = some r) :
    ∃ m, (match y with | none => some d | some y => match opv G ρ 0 y with | some (.int _ n) => if 0 ≤ n then some n.toNat else none | _ => none) = some m ∧ (k m).run G O = some r := by
  unfold natOf at h
  split at h
  · exact ⟨d, rfl, h⟩
  · split at h
    · rename_i y k' n hy
      simp only [Tree.run] at h
      split at h
      · rename_i h0
        exact ⟨n.toNat, by simp [hy, h0], h⟩
      · simp at h
    · simp [Tree.run] at h

theorem run_opT {k : List (Nat × Slot) → Sig → Tree} (h : (opT G E o ρ σ k).run G O = some r) : ∃ u s, stepNC G E o ρ σ = some (u, s) ∧ (k u s).run G O = some r := by
  unfold opT at h
  split at h
  · -- pick
    rename_i c a b ho
    split at h
    · rename_i b' hb
      simp only [Tree.run] at h
      split at h
      · rename_i v hv
        exact ⟨_, _, by simp [stepNC, arrOp, core, core1, ho, hb, hv], h⟩
      · simp [Tree.run] at h
    · exact run_dflt h
  · -- rem
    rename_i t x y u ho
    split at h
    · rename_i i' b hy
      simp only [Tree.run] at h
      split at h
      · rename_i hb
        split at h
        · rename_i i a i'' b' i3 hx hy' hu
          rw [hy] at hy'
          simp at hy'
          obtain ⟨rfl, rfl⟩ := hy'
          split at h
          · rename_i hi
            subst hi
            refine ⟨_, _, ?_, h⟩
            simp at hb
            simp [stepNC, arrOp, core, core1, ho, hx, hy, hu, abin, hb]
          · simp [Tree.run] at h
        · exact run_dflt h
      · simp at h
    · exact run_dflt h
  · -- indexAddr
    rename_i t x i ho
    split at h
    · rename_i s hh hl
      split at h
      · rename_i sz es e kk n hs hu hi
        split at h
        · rename_i hsz
          simp only [Tree.run] at h
          split at h
          · rename_i h0
            split at h
            · rename_i hm
              refine ⟨_, _, ?_, h⟩
              simp at hm
              simp [stepNC, arrOp, ho, hl, hs, hu, hi, h0, hm, hsz.1]
              exact hsz.1 ▸ hsz.2
            · simp at h
          · simp at h
        · simp [Tree.run] at h
      · exact run_dflt h
    · rename_i hl
      split at h
      · rename_i e kk n hu hi
        split at h
        · rename_i sz es hx
          split at h
          · simp [Tree.run] at h
          · rename_i hsz
            simp only [Tree.run] at h
            split at h
            · rename_i h0
              split at h
              · rename_i a ha
                refine ⟨_, _, ?_, h⟩
                have hn : ¬ n < 0 := by omega
                simp [stepNC, arrOp, core, core1, ho, hl, hu, hi, hx, hn, hsz, ha]
              · simp at h
            · simp at h
        · exact run_dflt h
      · exact run_dflt h
  · -- slice
    rename_i t x lo hi mx ho
    split at h
    · rename_i s hh hl
      split at h
      · rename_i sz es e y hs hu
        split at h
        · rename_i kk n hy
          split at h
          · rename_i hsz
            simp only [Tree.run] at h
            split at h
            · rename_i h0
              split at h
              · rename_i hm
                refine ⟨_, _, ?_, h⟩
                simp at hm
                simp [stepNC, arrOp, ho, hl, hs, hu, hy, h0, hm, hsz.1]
                exact hsz.1 ▸ hsz.2
              · simp at h
            · simp at h
          · simp [Tree.run] at h
        · simp [Tree.run] at h
      · simp [Tree.run] at h
    · rename_i hl
      split at h
      · rename_i e sz es hu hx
        split at h
        · simp [Tree.run] at h
        · rename_i hsz
          obtain ⟨l, h1, h⟩ := run_natOf h
          obtain ⟨hh, h2, h⟩ := run_natOf h
          obtain ⟨m, h3, h⟩ := run_natOf h
          simp only [Tree.run] at h
          split at h
          · rename_i hc
            simp at hc
            split at h
            · rename_i hmx
              refine ⟨_, _, ?_, h⟩
              simp only [stepNC, arrOp, ho, hl, core, core1, hu, hx, Option.bind_eq_bind, Option.bind_some, if_neg hsz, Option.map_eq_some_iff]
              refine ⟨_, ?_, rfl⟩
              rw [Option.bind_eq_some_iff]
              refine ⟨l, h1, ?_⟩
              rw [Option.bind_eq_some_iff]
              refine ⟨hh, h2, ?_⟩
              rw [Option.bind_eq_some_iff]
              refine ⟨m, h3, ?_⟩
              rw [if_pos ⟨hc.1.1, hc.1.2, hc.2, hmx⟩]
            · simp [Tree.run] at h
          · simp at h
      · exact run_dflt h
  · -- load
    rename_i t a ho
    split at h
    · rename_i s off hp
      split at h
      · rename_i sz es hs
        split at h
        · simp [Tree.run] at h
        · rename_i hty
          simp only [Tree.run] at h
          split at h
          · rename_i v hv
            exact ⟨_, _, by simp [stepNC, arrOp, ho, hp, hs, hty, hv], h⟩
          · simp at h
      · exact run_dflt h
    · rename_i id off hp
      split at h
      · simp [Tree.run] at h
      · rename_i hty
        simp only [Tree.run] at h
        split at h
        · rename_i cs ow hσ
          split at h
          · rename_i v d hv hd
            split at h
            · rename_i hc
              refine ⟨_, _, ?_, h⟩
              simp only [stepNC, arrOp, ho, hp, core, if_neg hty, Option.bind_eq_bind, Option.bind_some, hσ, hv, hd]
              rw [if_pos hc]
            · rename_i hc
              refine ⟨_, _, ?_, h⟩
              simp only [stepNC, arrOp, ho, hp, core, if_neg hty, Option.bind_eq_bind, Option.bind_some, hσ, hv, hd]
              rw [if_neg hc]
          · simp [Tree.run] at h
        · simp at h
    · exact run_dflt h
  · -- store
    rename_i t a x ho
    split at h
    · rename_i id off hp
      split at h
      · rename_i v hv
        split at h
        · simp [Tree.run] at h
        · rename_i hc
          simp only [Tree.run] at h
          split at h
          · rename_i cs ow hσ
            split at h
            · rename_i hle
              simp only [Tree.run] at h
              split at h
              · rename_i hb
                refine ⟨_, _, ?_, h⟩
                simp only [Bool.or_eq_true, decide_eq_true_eq] at hb
                simp only [stepNC, arrOp, ho, hp, core, if_neg hc, Option.bind_eq_bind, Option.bind_some, hσ, hv]
                rw [if_pos ⟨hle, hb⟩]
              · simp at h
            · simp [Tree.run] at h
          · simp at h
      · simp [Tree.run] at h
    · exact run_dflt h
  · -- append
    rename_i args tys ho
    split at h
    · rename_i x y tx ty ha ht
      split at h
      · rename_i s hh hl
        split at h
        · rename_i sz es d e sz' es' hs hd hu hy
          simp only [Tree.run] at h
          split at h
          · rename_i hb
            simp at hb
            split at h
            · rename_i hc
              refine ⟨_, _, ?_, h⟩
              obtain ⟨c1, c2, c3, c4, c5, c6, c7, c8, c9, c10, c11⟩ := hc
              simp only [stepNC, arrOp, ho, ha, ht, hl, hs, hd, hu, hy, Option.bind_eq_bind, Option.bind_some]
              rw [if_pos ⟨c1, c2, c3, c4, hb.1, c5, c6, c7, c8, hb.2, c9, c10, c11⟩]
              rfl
            · simp [Tree.run] at h
          · simp at h
        · exact run_dflt h
      · rename_i hl
        split at h
        · rename_i e e' sz es sz' es' hu hu' hx hy
          simp only [Tree.run] at h
          split at h
          · rename_i hb
            simp at hb
            split at h
            · rename_i hc
              refine ⟨_, _, ?_, h⟩
              obtain ⟨c1, c2, c3, c4, c5, c6, c7, c8⟩ := hc
              simp only [stepNC, arrOp, ho, ha, ht, hl, core, core1, hu, hu', hx, hy, Option.bind_eq_bind, Option.bind_some]
              rw [if_pos ⟨c1, c2, c3, c4, c5, hb, c6, c7, c8⟩]
              rfl
            · simp [Tree.run] at h
          · simp at h
        · exact run_dflt h
    · exact run_dflt h
  · exact run_dflt h

theorem run_stepOpT {k : List (Nat × Slot) → Sig → Tree} (h : (stepOpT G E ops quiet o ρ σ k).run G O = some r) : ∃ u s, stepOp G E O ops quiet o ρ σ = some (u, s) ∧ (k u s).run G O = some r := by
  have go : ∀ (h : (if isCall o then
      match callOf G ρ o with
      | none => Tree.done none
      | some (.inl g, args) => .call o.type g args σ quiet fun v σ' => k (puts o.dst (.val v [])) σ'
      | some (.inr l, args) => if quiet then .done none else .yield o.type l args σ fun v σ' => k (puts o.dst (.val v [])) σ'
    else opT G E o ρ σ k : Tree).run G O = some r) (hw : want ρ ops o = some true), ∃ u s, stepOp G E O ops quiet o ρ σ = some (u, s) ∧ (k u s).run G O = some r := by
    intro h hw
    split at h
    · rename_i hcall
      split at h
      · simp [Tree.run] at h
      · rename_i g args hc
        simp only [Tree.run, callRes] at h
        simp only [stepOp, hw, hcall, if_true, hc]
        split at h
        · rename_i v σ' hr
          split at hr
          · rename_i v' hv
            simp only [Option.some.injEq, Prod.mk.injEq] at hr
            obtain ⟨rfl, rfl⟩ := hr
            exact ⟨_, _, by rw [hv], h⟩
          · rename_i hne
            split at hr
            · simp at hr
            · rename_i hq
              refine ⟨puts o.dst (.val v []), σ', ?_, h⟩
              split
              · rename_i v2 hv2; exact absurd hv2 (hne _)
              · rw [if_neg hq, hr]
        · simp at h
      · rename_i l args hc
        simp only [stepOp, hw, hcall, if_true, hc]
        split at h
        · simp [Tree.run] at h
        · rename_i hq
          simp only [Tree.run] at h
          split at h
          · rename_i v σ' hr
            exact ⟨_, _, by rw [if_neg hq, hr], h⟩
          · simp at h
    · rename_i hcall
      obtain ⟨u, s, h1, h2⟩ := run_opT h
      refine ⟨u, s, ?_, h2⟩
      simp only [stepOp, hw, hcall]
      exact h1
  unfold stepOpT at h
  simp only at h
  split at h
  · rename_i hg
    exact go h (by simp [want, hg])
  · rename_i j w hg
    split at h
    · simp [Tree.run] at h
    · rename_i d hd
      split at h
      · rename_i b ow hρ
        simp only [Tree.run] at h
        have hw : want ρ ops o = some (b == w) := by simp [want, hg, hd, hρ]
        split at h
        · rename_i hc
          exact go h (by rw [hw, hc])
        · rename_i hc
          refine ⟨_, _, ?_, h⟩
          have : (b == w) = false := by simpa using hc
          simp only [stepOp, hw, this]
      · rename_i ow hρ
        refine ⟨_, _, ?_, h⟩
        have hw : want ρ ops o = some false := by simp [want, hg, hd, hρ]
        simp only [stepOp, hw]
      · simp [Tree.run] at h

theorem run_aopT {k : Env → Sig → Tree} (h : (aopT G E ops quiet o ρ σ k).run G O = some r) : ∃ ρ' σ', aop G E O ops quiet o ρ σ = some (ρ', σ') ∧ (k ρ' σ').run G O = some r := by
  unfold aopT at h
  obtain ⟨u, s, h1, h2⟩ := run_stepOpT h
  split at h2
  · rename_i hf
    refine ⟨_, _, ?_, h2⟩
    unfold aop
    rw [h1]
    simp only
    rw [if_pos hf]
  · simp [Tree.run] at h2

theorem run_aopsT : ∀ (l : List Oper) (ρ : Env) (σ : Sig) (k : Env → Sig → Tree), (aopsT G E ops quiet l ρ σ k).run G O = some r → ∃ ρ' σ', aops G E O ops quiet l ρ σ = some (ρ', σ') ∧ (k ρ' σ').run G O = some r := by
  intro l
  induction l with
  | nil => intro ρ σ k h; exact ⟨ρ, σ, rfl, h⟩
  | cons o l ih =>
    intro ρ σ k h
    obtain ⟨ρ1, σ1, h1, h2⟩ := run_aopT h
    obtain ⟨ρ2, σ2, h3, h4⟩ := ih _ _ _ h2
    exact ⟨ρ2, σ2, by simp only [aops, h1, h3], h4⟩

theorem run_penT {A I S B : Oper} {k : List (Nat × Slot) → Tree} (h : (penT G E A I S B ρ k).run G O = some r) : ∃ ups, penUps G E A I S B ρ = some ups ∧ (k ups).run G O = some r := by
  unfold penT at h
  split at h
  · rename_i args tys ti d1 ii ts q1 vs tb pb d2 hA hI hS hB
    split at h
    · rename_i x y tx ty d q hargs htys hAd hId hSd hBd
      split at h
      · rename_i e sz es sz' es' kk n v hu hx hy hi hv
        simp only [Tree.run] at h
        split at h
        · rename_i hn
          simp only [Bool.and_eq_true, decide_eq_true_eq] at hn
          split at h
          · rename_i hc
            obtain ⟨c1, c2, c3, c4, c5⟩ := hc
            refine ⟨_, ?_, h⟩
            simp only [penUps, hA, hI, hS, hB, hargs, htys, hAd, hId, hSd, hBd, hu, hx, hy, hi, hv]
            rw [if_pos ⟨c1, c2, c3, c4, c5, hn⟩]
          · simp [Tree.run] at h
        · simp at h
      · simp [Tree.run] at h
    · simp [Tree.run] at h
  · simp [Tree.run] at h

theorem run_regionT {id : Nat} {draw : Bool} {k : Env → Sig → Tree} (h : (regionT G E id ops draw ρ σ k).run G O = some r) : ∃ ρ' σ', aregion G E O id ops draw ρ σ = some (ρ', σ') ∧ (k ρ' σ').run G O = some r := by
  unfold regionT at h
  unfold aregion
  split at h
  · rename_i hp
    rw [if_pos hp]
    split at h
    · rename_i front A I S B hparts
      obtain ⟨ρ1, σ1, h1, h2⟩ := run_aopsT _ _ _ _ h
      obtain ⟨ups, h3, h4⟩ := run_penT h2
      obtain ⟨ρ2, σ2, h5, h6⟩ := run_aopT h4
      exact ⟨ρ2, σ2, by simp only [hparts, h1, h3, h5], h6⟩
    · simp [Tree.run] at h
  · rename_i hp
    rw [if_neg hp]
    exact run_aopsT _ _ _ _ h

theorem mkEnv_get (f : Nat → Slot) (vars : List Nat) (t : Nat) : mkEnv (vars.map fun t => (t, f t)) t = if t ∈ vars then f t else .none := by
  induction vars with
  | nil => rfl
  | cons v vars ih =>
    simp only [List.map_cons, mkEnv]
    by_cases h : t = v
    · subst h; simp
    · rw [if_neg h, ih]; simp [h]

theorem forget_idem (vars : List Nat) (ρ : Env) : forget vars (forget vars ρ) = forget vars ρ := by
  funext t
  simp only [forget, mkEnv_get]
  split
  · cases ρ t <;> rfl
  · rfl

theorem execC_forget {b : Code} : execC G E O (.loop b) (forget (E.an.headOf b) ρ) σ = execC G E O (.loop b) ρ σ := by
  simp only [execC, forget_idem]

theorem flatL_app (a b : List AV) : AV.flatL (a ++ b) = (AV.flatL a && AV.flatL b) := by
  induction a with
  | nil => simp [AV.flatL]
  | cons x a ih => simp [AV.flatL, ih, Bool.and_assoc]

theorem run_execT : ∀ (c : Code) (ρ : Env) (σ : Sig) (k : XExit → Env → Sig → Tree), (execT G E c ρ σ k).run G O = some r → ∃ e ρ' σ', execC G E O c ρ σ = some (e, ρ', σ') ∧ (k e ρ' σ').run G O = some r := by
  intro c
  induction c with
  | skip => intro ρ σ k h; exact ⟨_, _, _, rfl, h⟩
  | ret => intro ρ σ k h; exact ⟨_, _, _, rfl, h⟩
  | exit id => intro ρ σ k h; exact ⟨_, _, _, rfl, h⟩
  | seq a b iha ihb =>
    intro ρ σ k h
    simp only [execT] at h
    obtain ⟨e, ρ1, σ1, h1, h2⟩ := iha _ _ _ h
    cases e with
    | normal =>
      obtain ⟨e2, ρ2, σ2, h3, h4⟩ := ihb _ _ _ h2
      exact ⟨e2, ρ2, σ2, by simp only [execC, h1, h3], h4⟩
    | exit id => exact ⟨_, ρ1, σ1, by simp only [execC, h1], h2⟩
    | ret => exact ⟨_, ρ1, σ1, by simp only [execC, h1], h2⟩
  | cond c a b iha ihb =>
    intro ρ σ k h
    simp only [execT] at h
    split at h
    · rename_i b' hb
      simp only [Tree.run] at h
      cases b' with
      | true =>
        simp at h
        obtain ⟨e, ρ1, σ1, h1, h2⟩ := iha _ _ _ h
        exact ⟨e, ρ1, σ1, by simp only [execC, hb, h1], h2⟩
      | false =>
        simp at h
        obtain ⟨e, ρ1, σ1, h1, h2⟩ := ihb _ _ _ h
        exact ⟨e, ρ1, σ1, by simp only [execC, hb, h1], h2⟩
    · simp [Tree.run] at h
  | block id b ih =>
    intro ρ σ k h
    simp only [execT] at h
    obtain ⟨e, ρ1, σ1, h1, h2⟩ := ih _ _ _ h
    cases e with
    | normal => exact ⟨_, ρ1, σ1, by simp only [execC, h1], h2⟩
    | exit id' => exact ⟨_, ρ1, σ1, by simp only [execC, h1], h2⟩
    | ret => exact ⟨_, ρ1, σ1, by simp only [execC, h1], h2⟩
  | loop b ih =>
    intro ρ σ k h
    simp only [execT, Tree.run] at h
    split at h
    · rename_i e ρ' σ' hx
      exact ⟨e, ρ', σ', execC_forget (E := E) ▸ hx, h⟩
    · simp at h
  | region id ops draw =>
    intro ρ σ k h
    simp only [execT] at h
    obtain ⟨ρ1, σ1, h1, h2⟩ := run_regionT h
    exact ⟨_, _, _, by simp only [execC, h1], h2⟩
  | rangeFunc f ps assign body _ _ =>
    intro ρ σ k h
    simp only [execT] at h
    split at h
    · rename_i g first cap hf
      have go : ∀ (h : (if (ps.toList.all fun t => decide (t < E.an.ntmps) && !E.an.loc.contains t) = false then Tree.done none else
        .call 0 g (first ++ [.yield σ.length] ++ cap) (σ ++ [.loop { fn := E.fn, env := roundEnv ρ, params := ps, assign, body, state := .ready, pending := none }]) false fun _ σ2 =>
          .lp σ2 σ.length fun L' => if L'.state = .busy then .done none else
            match L'.pending with
            | none => k .normal ρ (σ2.set σ.length (.loop { L' with state := .exhausted }))
            | some .ret => k .ret ρ (σ2.set σ.length (.loop { L' with state := .exhausted }))
            | some (.exit id) => k (.exit id) ρ (σ2.set σ.length (.loop { L' with state := .exhausted }))
            | _ => .done none : Tree).run G O = some r) (hr : roundOk E σ = true),
          ∃ e ρ' σ', execC G E O (.rangeFunc f ps assign body) ρ σ = some (e, ρ', σ') ∧ (k e ρ' σ').run G O = some r := by
        intro h hr
        split at h
        · simp [Tree.run] at h
        · rename_i hps
          simp only [Tree.run] at h
          split at h
          · rename_i v σ2 hc
            have hnf : AV.flatL (first ++ [AV.yield σ.length] ++ cap) = false := by simp [flatL_app, AV.flatL, AV.flat]
            simp only [callRes, hnf, Bool.false_eq_true, if_false] at hc
            split at h
            · rename_i L' hL
              split at h
              · simp [Tree.run] at h
              · rename_i hbusy
                have key : ∀ x, (match L'.pending with
                    | none => some (XExit.normal, ρ, σ2.set σ.length (.loop { L' with state := .exhausted }))
                    | some .ret => some (.ret, ρ, σ2.set σ.length (.loop { L' with state := .exhausted }))
                    | some (.exit id) => some (.exit id, ρ, σ2.set σ.length (.loop { L' with state := .exhausted }))
                    | _ => none) = some x → execC G E O (.rangeFunc f ps assign body) ρ σ = some x := by
                  intro x hx
                  simp only [execC, hf]
                  rw [if_neg (by rw [hr]; simp), if_neg hps]
                  simp only [hc, hL]
                  rw [if_neg hbusy]
                  exact hx
                split at h
                · rename_i hp
                  exact ⟨_, _, _, key _ (by rw [hp]), h⟩
                · rename_i hp
                  exact ⟨_, _, _, key _ (by rw [hp]), h⟩
                · rename_i id hp
                  exact ⟨_, _, _, key _ (by rw [hp]), h⟩
                · simp [Tree.run] at h
            · simp at h
          · simp at h
      cases hro : E.round with
      | none =>
        rw [hro] at h
        exact go h (by simp [roundOk, hro])
      | some l =>
        rw [hro] at h
        simp only [Tree.run] at h
        split at h
        · rename_i L hL
          exact go h (by simp [roundOk, hro, hL])
        · simp at h
    · simp [Tree.run] at h
  | _ => intro ρ σ k h; simp [execT, Tree.run] at h

theorem run_treeT {t : Task} (h : (treeT G t).run G O = some r) : stepT G O t = some r := by
  cases t with
  | call g args σ =>
    simp only [treeT] at h
    simp only [stepT]
    by_cases hprim : G.prim.contains g = true
    · rw [if_pos hprim] at h ⊢
      split at h
      · rename_i sz es
        split at h
        · rename_i hsz
          simp only [Tree.run] at h
          split at h
          · rename_i hle
            simp at hle
            subst hsz
            simp [primOf, hle]
            simpa [Tree.run] using h
          · simp at h
        · simp [Tree.run] at h
      · simp [Tree.run] at h
    rw [if_neg hprim] at h ⊢
    split at h
    · rename_i an fn hann hfn
      split at h
      · rename_i c hc
        split at h
        · rename_i hlen
          obtain ⟨e, ρ', σ', h1, h2⟩ := run_execT _ _ _ _ h
          simp only [hann, hfn, hc]
          rw [if_pos hlen, h1]
          cases e with
          | exit id => simp [Tree.run] at h2
          | normal =>
            simp only at h2 ⊢
            split at h2
            · rename_i vs hvs
              simp only [hvs]
              simp only [Tree.run] at h2
              split at h2
              · rename_i hb
                simp only [Bool.or_eq_true, decide_eq_true_eq] at hb
                rw [if_pos (by simpa using hb)]
                simpa [Tree.run] using h2
              · rename_i hb
                simp only [Bool.or_eq_true, decide_eq_true_eq] at hb
                rw [if_neg (by simpa using hb)]
                simp only [Tree.run] at h2
                split at h2
                · rename_i hf; rw [if_pos hf]; simpa [Tree.run] using h2
                · simp at h2
            · simp [Tree.run] at h2
          | ret =>
            simp only at h2 ⊢
            split at h2
            · rename_i vs hvs
              simp only [hvs]
              simp only [Tree.run] at h2
              split at h2
              · rename_i hb
                simp only [Bool.or_eq_true, decide_eq_true_eq] at hb
                rw [if_pos (by simpa using hb)]
                simpa [Tree.run] using h2
              · rename_i hb
                simp only [Bool.or_eq_true, decide_eq_true_eq] at hb
                rw [if_neg (by simpa using hb)]
                simp only [Tree.run] at h2
                split at h2
                · rename_i hf; rw [if_pos hf]; simpa [Tree.run] using h2
                · simp at h2
            · simp [Tree.run] at h2
        · simp [Tree.run] at h
      · simp [Tree.run] at h
    · simp [Tree.run] at h
  | yield l args σ =>
    simp only [treeT, Tree.run] at h
    simp only [stepT]
    split at h
    · rename_i L hL
      simp only [hL]
      split at h
      · rename_i an hann
        simp only [hann]
        split at h
        · rename_i hc
          rw [if_pos hc]
          obtain ⟨e, ρ1, σ1, h1, h2⟩ := run_execT _ _ _ _ h
          rw [h1]
          cases e with
          | normal =>
            simp only [Tree.run] at h2
            split at h2
            · rename_i L1 hL1
              simp only [hL1]
              split at h2
              · rename_i hst
                rw [if_pos hst]
                obtain ⟨e2, ρ2, σ2, h3, h4⟩ := run_execT _ _ _ _ h2
                rw [h3]
                simp only [Tree.run] at h4
                split at h4
                · rename_i L2 hL2
                  simp only [hL2]
                  cases e2 <;> simpa [Tree.run] using h4
                · simp at h4
              · simp [Tree.run] at h2
            · simp at h2
          | exit id => simp [Tree.run] at h2
          | ret => simp [Tree.run] at h2
        · simp [Tree.run] at h
      · simp [Tree.run] at h
    · simp at h
  | loop E c ρ σ =>
    simp only [treeT] at h
    split at h
    · rename_i b
      obtain ⟨e, ρ1, σ1, h1, h2⟩ := run_execT _ _ _ _ h
      simp only [stepT, execC, h1]
      cases e with
      | normal =>
        simp only [Tree.run] at h2
        split at h2
        · rename_i e2 ρ2 σ2 hc
          have : O (.loop E (.loop b) (forget (E.an.headOf b) ρ1) σ1) = some (.code e2 ρ2 σ2) := by
            unfold codeOf at hc
            split at hc
            · rename_i heq; simp at hc; obtain ⟨rfl, rfl, rfl⟩ := hc; exact heq
            · simp at hc
          simp only [this]
          simpa [Tree.run] using h2
        · simp at h2
      | exit id => simpa [Tree.run] using h2
      | ret => simpa [Tree.run] using h2
    · simp [Tree.run] at h

/-! ### Scripts -/

inductive Ent where
  | s
  | b (c : Bool)
  | n (m : Nat)
  | a (v : AV)
  | u
  | x (cs : List AV) (ow : List Nat)
  | l (L : ALoop)
  | r (v : AV) (σ : Sig)
  | c (e : XExit) (ρ : Env) (σ : Sig)

/-- From some depth on the evaluator gives this. -/
def Ev (G : Prg) (t : Task) (r : Res) : Prop := ∃ N, ∀ m, N ≤ m → F G m t = some r

/-- A call that is handed boxes: either it needs none of them, or it is made with them. -/
def EvC (G : Prg) (g : FuncId) (args : List AV) (σ : Sig) (quiet : Bool) (v : AV) (σ' : Sig) : Prop :=
  (AV.flatL args = true ∧ Ev G (.call g args []) (.ret v []) ∧ σ' = σ) ∨ (AV.flatL args = false ∧ quiet = false ∧ Ev G (.call g args σ) (.ret v σ')) ∨
    (quiet = false ∧ (∃ v0 x xs, Ev G (.call g args []) (.ret v0 (x :: xs))) ∧ Ev G (.call g args σ) (.ret v σ'))

def play (G : Prg) : Tree → List Ent → Option (Res × List Prop)
  | .done (some r), [] => some (r, [])
  | .ask b k, .s :: s => play G (k b) s
  | .ask b k, .b c :: s => (play G (k c) s).map fun p => (p.1, (b = c) :: p.2)
  | .nat n k, .s :: s => if 0 ≤ n then play G (k n.toNat) s else none
  | .nat n k, .n m :: s => (play G (k m) s).map fun p => (p.1, (n = (m : Int)) :: p.2)
  | .get _ es i k, .s :: s => match es[i]? with | some a => play G (k a) s | none => none
  | .get _ es i k, .a v :: s => (play G (k v) s).map fun p => (p.1, (es[i]? = some v) :: p.2)
  | .chk p k, .s :: s => if p then play G k s else none
  | .chk p k, .u :: s => (play G k s).map fun q => (q.1, (p = true) :: q.2)
  | .box σ id k, .s :: s => match σ[id]? with | some (.box cs ow) => play G (k cs ow) s | _ => none
  | .box σ id k, .x cs ow :: s => (play G (k cs ow) s).map fun q => (q.1, (σ[id]? = some (.box cs ow)) :: q.2)
  | .lp σ id k, .s :: s => match σ[id]? with | some (.loop L) => play G (k L) s | _ => none
  | .lp σ id k, .l L :: s => (play G (k L) s).map fun q => (q.1, (σ[id]? = some (.loop L)) :: q.2)
  | .cutq _ agg cs off n k, .a v :: s => (play G (k v) s).map fun q => (q.1, (cut agg cs off n = some v) :: q.2)
  | .cutq _ agg cs off n k, .s :: s => match cut agg cs off n with | some v => play G (k v) s | none => none
  | .call _ g args σ quiet k, .r v σ' :: s => (play G (k v σ') s).map fun q => (q.1, EvC G g args σ quiet v σ' :: q.2)
  | .yield _ l args σ k, .r v σ' :: s => (play G (k v σ') s).map fun q => (q.1, Ev G (.yield l args σ) (.ret v σ') :: q.2)
  | .loopc E b ρ σ k, .c e ρ' σ' :: s => (play G (k e ρ' σ') s).map fun q => (q.1, Ev G (.loop E (.loop b) ρ σ) (.code e ρ' σ') :: q.2)
  | .loopo E b ρ σ k, .c e ρ' σ' :: s => (play G (k e ρ' σ') s).map fun q => (q.1, Ev G (.loop E (.loop b) ρ σ) (.code e ρ' σ') :: q.2)
  | _, _ => none

abbrev AllP : List Prop → Prop
  | [] => True
  | p :: ps => p ∧ AllP ps

theorem EvC.at {g : FuncId} {args : List AV} {σ σ' : Sig} {quiet : Bool} {v : AV} (h : EvC G g args σ quiet v σ') : ∃ N, ∀ m, N ≤ m → callRes (F G m) g args σ quiet = some (v, σ') := by
  rcases h with ⟨hf, ⟨N, hN⟩, rfl⟩ | ⟨hf, rfl, N, hN⟩ | ⟨rfl, ⟨v0, x, xs, N1, hN1⟩, N, hN⟩
  · exact ⟨N, fun m hm => by simp [callRes, hf, hN m hm, retOf]⟩
  · exact ⟨N, fun m hm => by simp [callRes, hf, hN m hm, retOf]⟩
  · refine ⟨max N N1, fun m hm => ?_⟩
    unfold callRes
    split
    · rename_i v' hv
      split at hv
      · rw [hN1 m (by omega)] at hv
        simp [retOf] at hv
      · simp at hv
    · simp [hN m (by omega), retOf]

theorem play_run : ∀ (T : Tree) (s : List Ent) (r : Res) (obs : List Prop), play G T s = some (r, obs) → AllP obs → ∃ N, ∀ m, N ≤ m → T.run G (F G m) = some r := by
  intro T
  induction T with
  | done r0 =>
    intro s r obs h _
    cases r0 with
    | none => simp [play] at h
    | some r0 =>
      cases s with
      | nil => simp [play] at h; exact ⟨0, fun m _ => by simp [Tree.run, h.1]⟩
      | cons x s => simp [play] at h
  | ask b k ih =>
    intro s r obs h ho
    cases s with
    | nil => simp [play] at h
    | cons x s =>
      cases x with
      | s => simp only [play] at h; exact ih b s r obs h ho
      | b c =>
        simp only [play, Option.map_eq_some_iff] at h
        obtain ⟨p, h1, h2⟩ := h
        simp only [Prod.mk.injEq] at h2
        obtain ⟨rfl, rfl⟩ := h2
        obtain ⟨rfl, ho⟩ := ho
        exact ih b s _ _ h1 ho
      | _ => simp [play] at h
  | nat n k ih =>
    intro s r obs h ho
    cases s with
    | nil => simp [play] at h
    | cons x s =>
      cases x with
      | s =>
        simp only [play] at h
        split at h
        · rename_i h0
          obtain ⟨N, hN⟩ := ih _ s r obs h ho
          exact ⟨N, fun m hm => by simp only [Tree.run, if_pos h0]; exact hN m hm⟩
        · simp at h
      | n c =>
        simp only [play, Option.map_eq_some_iff] at h
        obtain ⟨p, h1, h2⟩ := h
        simp only [Prod.mk.injEq] at h2
        obtain ⟨rfl, rfl⟩ := h2
        obtain ⟨rfl, ho⟩ := ho
        obtain ⟨N, hN⟩ := ih c s _ _ h1 ho
        exact ⟨N, fun m hm => by simp only [Tree.run]; rw [if_pos (by omega)]; exact hN m hm⟩
      | _ => simp [play] at h
  | get ty es i k ih =>
    intro s r obs h ho
    cases s with
    | nil => simp [play] at h
    | cons x s =>
      cases x with
      | s =>
        simp only [play] at h
        split at h
        · rename_i a ha
          obtain ⟨N, hN⟩ := ih _ s r obs h ho
          exact ⟨N, fun m hm => by simp only [Tree.run, ha]; exact hN m hm⟩
        · simp at h
      | a v =>
        simp only [play, Option.map_eq_some_iff] at h
        obtain ⟨p, h1, h2⟩ := h
        simp only [Prod.mk.injEq] at h2
        obtain ⟨rfl, rfl⟩ := h2
        obtain ⟨ha, ho⟩ := ho
        obtain ⟨N, hN⟩ := ih v s _ _ h1 ho
        exact ⟨N, fun m hm => by simp only [Tree.run, ha]; exact hN m hm⟩
      | _ => simp [play] at h
  | chk p k ih =>
    intro s r obs h ho
    cases s with
    | nil => simp [play] at h
    | cons x s =>
      cases x with
      | s =>
        simp only [play] at h
        split at h
        · rename_i h0
          obtain ⟨N, hN⟩ := ih s r obs h ho
          exact ⟨N, fun m hm => by simp only [Tree.run, if_pos h0]; exact hN m hm⟩
        · simp at h
      | u =>
        simp only [play, Option.map_eq_some_iff] at h
        obtain ⟨q, h1, h2⟩ := h
        simp only [Prod.mk.injEq] at h2
        obtain ⟨rfl, rfl⟩ := h2
        obtain ⟨h0, ho⟩ := ho
        obtain ⟨N, hN⟩ := ih s _ _ h1 ho
        exact ⟨N, fun m hm => by simp only [Tree.run, if_pos h0]; exact hN m hm⟩
      | _ => simp [play] at h
  | box σ id k ih =>
    intro s r obs h ho
    cases s with
    | nil => simp [play] at h
    | cons x s =>
      cases x with
      | s =>
        simp only [play] at h
        split at h
        · rename_i cs ow ha
          obtain ⟨N, hN⟩ := ih _ _ s r obs h ho
          exact ⟨N, fun m hm => by simp only [Tree.run, ha]; exact hN m hm⟩
        · simp at h
      | x cs ow =>
        simp only [play, Option.map_eq_some_iff] at h
        obtain ⟨p, h1, h2⟩ := h
        simp only [Prod.mk.injEq] at h2
        obtain ⟨rfl, rfl⟩ := h2
        obtain ⟨ha, ho⟩ := ho
        obtain ⟨N, hN⟩ := ih cs ow s _ _ h1 ho
        exact ⟨N, fun m hm => by simp only [Tree.run, ha]; exact hN m hm⟩
      | _ => simp [play] at h
  | lp σ id k ih =>
    intro s r obs h ho
    cases s with
    | nil => simp [play] at h
    | cons x s =>
      cases x with
      | s =>
        simp only [play] at h
        split at h
        · rename_i L ha
          obtain ⟨N, hN⟩ := ih _ s r obs h ho
          exact ⟨N, fun m hm => by simp only [Tree.run, ha]; exact hN m hm⟩
        · simp at h
      | l L =>
        simp only [play, Option.map_eq_some_iff] at h
        obtain ⟨p, h1, h2⟩ := h
        simp only [Prod.mk.injEq] at h2
        obtain ⟨rfl, rfl⟩ := h2
        obtain ⟨ha, ho⟩ := ho
        obtain ⟨N, hN⟩ := ih L s _ _ h1 ho
        exact ⟨N, fun m hm => by simp only [Tree.run, ha]; exact hN m hm⟩
      | _ => simp [play] at h
  | cutq ty agg cs off n k ih =>
    intro s r obs h ho
    cases s with
    | nil => simp [play] at h
    | cons x s =>
      cases x with
      | s =>
        simp only [play] at h
        split at h
        · rename_i a ha
          obtain ⟨N, hN⟩ := ih _ s r obs h ho
          exact ⟨N, fun m hm => by simp only [Tree.run, ha]; exact hN m hm⟩
        · simp at h
      | a v =>
        simp only [play, Option.map_eq_some_iff] at h
        obtain ⟨p, h1, h2⟩ := h
        simp only [Prod.mk.injEq] at h2
        obtain ⟨rfl, rfl⟩ := h2
        obtain ⟨ha, ho⟩ := ho
        obtain ⟨N, hN⟩ := ih v s _ _ h1 ho
        exact ⟨N, fun m hm => by simp only [Tree.run, ha]; exact hN m hm⟩
      | _ => simp [play] at h
  | call ty g args σ quiet k ih =>
    intro s r obs h ho
    cases s with
    | nil => simp [play] at h
    | cons x s =>
      cases x with
      | r v σ' =>
        simp only [play, Option.map_eq_some_iff] at h
        obtain ⟨p, h1, h2⟩ := h
        simp only [Prod.mk.injEq] at h2
        obtain ⟨rfl, rfl⟩ := h2
        obtain ⟨ha, ho⟩ := ho
        obtain ⟨N1, hN1⟩ := ha.at
        obtain ⟨N, hN⟩ := ih v σ' s _ _ h1 ho
        exact ⟨max N N1, fun m hm => by simp only [Tree.run, hN1 m (by omega)]; exact hN m (by omega)⟩
      | _ => simp [play] at h
  | yield ty l args σ k ih =>
    intro s r obs h ho
    cases s with
    | nil => simp [play] at h
    | cons x s =>
      cases x with
      | r v σ' =>
        simp only [play, Option.map_eq_some_iff] at h
        obtain ⟨p, h1, h2⟩ := h
        simp only [Prod.mk.injEq] at h2
        obtain ⟨rfl, rfl⟩ := h2
        obtain ⟨⟨N1, hN1⟩, ho⟩ := ho
        obtain ⟨N, hN⟩ := ih v σ' s _ _ h1 ho
        exact ⟨max N N1, fun m hm => by simp only [Tree.run, hN1 m (by omega), retOf]; exact hN m (by omega)⟩
      | _ => simp [play] at h
  | loopc E b ρ σ k ih =>
    intro s r obs h ho
    cases s with
    | nil => simp [play] at h
    | cons x s =>
      cases x with
      | c e ρ' σ' =>
        simp only [play, Option.map_eq_some_iff] at h
        obtain ⟨p, h1, h2⟩ := h
        simp only [Prod.mk.injEq] at h2
        obtain ⟨rfl, rfl⟩ := h2
        obtain ⟨⟨N1, hN1⟩, ho⟩ := ho
        obtain ⟨N, hN⟩ := ih e ρ' σ' s _ _ h1 ho
        refine ⟨max N N1, fun m hm => ?_⟩
        have hx := hN1 (m + 1) (by omega)
        simp only [F, stepT] at hx
        split at hx
        · rename_i e1 ρ1 σ1 hx1
          simp only [Option.some.injEq, Res.code.injEq] at hx
          obtain ⟨rfl, rfl, rfl⟩ := hx
          simp only [Tree.run, hx1]
          exact hN m (by omega)
        · simp at hx
      | _ => simp [play] at h
  | loopo E b ρ σ k ih =>
    intro s r obs h ho
    cases s with
    | nil => simp [play] at h
    | cons x s =>
      cases x with
      | c e ρ' σ' =>
        simp only [play, Option.map_eq_some_iff] at h
        obtain ⟨p, h1, h2⟩ := h
        simp only [Prod.mk.injEq] at h2
        obtain ⟨rfl, rfl⟩ := h2
        obtain ⟨⟨N1, hN1⟩, ho⟩ := ho
        obtain ⟨N, hN⟩ := ih e ρ' σ' s _ _ h1 ho
        exact ⟨max N N1, fun m hm => by simp only [Tree.run, hN1 m (by omega), codeOf]; exact hN m (by omega)⟩
      | _ => simp [play] at h

/-- A script that plays out, all that it owes paid: so the evaluator comes out. -/
theorem Ev.of (s : List Ent) {t : Task} {r : Res} {obs : List Prop} (h : play G (treeT G t) s = some (r, obs)) (ho : AllP obs) : Ev G t r := by
  obtain ⟨N, hN⟩ := play_run _ _ _ _ h ho
  refine ⟨N + 1, fun m hm => ?_⟩
  cases m with
  | zero => omega
  | succ m => exact run_treeT (hN m (by omega))

theorem EvC.flat {g : FuncId} {args : List AV} {v : AV} (h : Ev G (.call g args []) (.ret v [])) (hf : AV.flatL args = true) (σ : Sig) (quiet : Bool) : EvC G g args σ quiet v σ := .inl ⟨hf, h, rfl⟩
theorem EvC.with {g : FuncId} {args : List AV} {v : AV} {σ σ' : Sig} (h : Ev G (.call g args σ) (.ret v σ')) (hf : AV.flatL args = false) : EvC G g args σ false v σ' := .inr (.inl ⟨hf, rfl, h⟩)
theorem EvC.keep {g : FuncId} {args : List AV} {v v0 : AV} {x : AObj} {xs σ σ' : Sig} (h0 : Ev G (.call g args []) (.ret v0 (x :: xs))) (h : Ev G (.call g args σ) (.ret v σ')) : EvC G g args σ false v σ' := .inr (.inr ⟨rfl, ⟨v0, x, xs, h0⟩, h⟩)

/-! ### Reckoning -/

def callS (O : Task → Option Res) (g : FuncId) (args : List AV) (σ : Sig) (quiet : Bool) : Option (AV × Sig) :=
  if AV.flatL args then (match retOf (O (.call g args [])) with | some (v, []) => some (v, σ) | some (_, _ :: _) => if quiet then none else retOf (O (.call g args σ)) | none => none) else if quiet then none else retOf (O (.call g args σ))

def Tree.runS (O : Task → Option Res) : Tree → Option Res
  | .done r => r
  | .ask b k => (k b).runS O
  | .nat n k => if 0 ≤ n then (k n.toNat).runS O else none
  | .get _ es i k => match es[i]? with | some a => (k a).runS O | none => none
  | .chk p k => if p then k.runS O else none
  | .box σ id k => match σ[id]? with | some (.box cs ow) => (k cs ow).runS O | _ => none
  | .lp σ id k => match σ[id]? with | some (.loop L) => (k L).runS O | _ => none
  | .cutq _ agg cs off n k => match cut agg cs off n with | some v => (k v).runS O | none => none
  | .call _ g args σ quiet k => match callS O g args σ quiet with | some (v, σ') => (k v σ').runS O | none => none
  | .yield _ l args σ k => match retOf (O (.yield l args σ)) with | some (v, σ') => (k v σ').runS O | none => none
  | .loopc E b ρ σ k => match codeOf (O (.loop E (.loop b) ρ σ)) with | some (e, ρ', σ') => (k e ρ' σ').runS O | none => none
  | .loopo E b ρ σ k => match codeOf (O (.loop E (.loop b) ρ σ)) with | some (e, ρ', σ') => (k e ρ' σ').runS O | none => none

def FS (G : Prg) : Nat → Task → Option Res
  | 0, _ => none
  | n + 1, t => (treeT G t).runS (FS G n)

theorem retOf_eq {x : Option Res} {v : AV} {s : Sig} (h : retOf x = some (v, s)) : x = some (.ret v s) := by
  unfold retOf at h
  split at h
  · simp at h; obtain ⟨rfl, rfl⟩ := h; rfl
  · simp at h

theorem codeOf_eq {x : Option Res} {e : XExit} {ρ : Env} {s : Sig} (h : codeOf x = some (e, ρ, s)) : x = some (.code e ρ s) := by
  unfold codeOf at h
  split at h
  · simp at h; obtain ⟨rfl, rfl, rfl⟩ := h; rfl
  · simp at h

theorem runS_run {O : Task → Option Res} {m : Nat} (hO : ∀ t r, O t = some r → F G m t = some r ∧ F G (m + 1) t = some r) : ∀ (T : Tree) (r : Res), T.runS O = some r → T.run G (F G m) = some r := by
  intro T
  induction T with
  | done r0 => intro r h; exact h
  | ask b k ih => intro r h; exact ih b r h
  | nat n k ih =>
    intro r h
    simp only [Tree.runS] at h
    simp only [Tree.run]
    split at h
    · rename_i h0; rw [if_pos h0]; exact ih _ r h
    · simp at h
  | get ty es i k ih =>
    intro r h
    simp only [Tree.runS] at h
    split at h
    · rename_i a ha
      simp only [Tree.run, ha]; exact ih _ r h
    · simp at h
  | chk p k ih =>
    intro r h
    simp only [Tree.runS] at h
    simp only [Tree.run]
    split at h
    · rename_i h0; rw [if_pos h0]; exact ih r h
    · simp at h
  | box σ id k ih =>
    intro r h
    simp only [Tree.runS] at h
    split at h
    · rename_i cs ow ha
      simp only [Tree.run, ha]; exact ih _ _ r h
    · simp at h
  | lp σ id k ih =>
    intro r h
    simp only [Tree.runS] at h
    split at h
    · rename_i L ha
      simp only [Tree.run, ha]; exact ih _ r h
    · simp at h
  | cutq ty agg cs off n k ih =>
    intro r h
    simp only [Tree.runS] at h
    split at h
    · rename_i v hv
      simp only [Tree.run, hv]; exact ih _ r h
    · simp at h
  | call ty g args σ quiet k ih =>
    intro r h
    simp only [Tree.runS] at h
    split at h
    · rename_i v σ' hc
      have : callRes (F G m) g args σ quiet = some (v, σ') := by
        unfold callS at hc
        unfold callRes
        split at hc
        · rename_i hf
          split at hc
          · rename_i v' hv
            have := retOf_eq hv
            have := (hO _ _ this).1
            simp only [Option.some.injEq, Prod.mk.injEq] at hc
            obtain ⟨rfl, rfl⟩ := hc
            simp [hf, this, retOf]
          · rename_i v0 x xs hv
            have h1 := (hO _ _ (retOf_eq hv)).1
            split at hc
            · simp at hc
            · rename_i hq
              have h2 := (hO _ _ (retOf_eq hc)).1
              have hq : quiet = false := by simpa using hq
              simp [hf, h1, h2, retOf, hq]
          · simp at hc
        · rename_i hf
          have hf : AV.flatL args = false := by simpa using hf
          split at hc
          · simp at hc
          · rename_i hq
            have := (hO _ _ (retOf_eq hc)).1
            have hq : quiet = false := by simpa using hq
            simp [hf, this, retOf, hq]
      simp only [Tree.run, this]
      exact ih _ _ r h
    · simp at h
  | yield ty l args σ k ih =>
    intro r h
    simp only [Tree.runS] at h
    split at h
    · rename_i v σ' hc
      have := (hO _ _ (retOf_eq hc)).1
      simp only [Tree.run, this, retOf]
      exact ih _ _ r h
    · simp at h
  | loopc E b ρ σ k ih =>
    intro r h
    simp only [Tree.runS] at h
    split at h
    · rename_i e ρ' σ' hc
      have hx := (hO _ _ (codeOf_eq hc)).2
      simp only [F, stepT] at hx
      split at hx
      · rename_i e1 ρ1 σ1 hx1
        simp only [Option.some.injEq, Res.code.injEq] at hx
        obtain ⟨rfl, rfl, rfl⟩ := hx
        simp only [Tree.run, hx1]
        exact ih _ _ _ r h
      · simp at hx
    · simp at h
  | loopo E b ρ σ k ih =>
    intro r h
    simp only [Tree.runS] at h
    split at h
    · rename_i e ρ' σ' hc
      have := (hO _ _ (codeOf_eq hc)).1
      simp only [Tree.run, this, codeOf]
      exact ih _ _ _ r h
    · simp at h

theorem FS_F : ∀ (n : Nat) (t : Task) (r : Res), FS G n t = some r → ∀ m, n ≤ m → F G m t = some r := by
  intro n
  induction n with
  | zero => intro t r h; simp [FS] at h
  | succ n ih =>
    intro t r h m hm
    cases m with
    | zero => omega
    | succ m => exact run_treeT (runS_run (fun t r h => ⟨ih t r h m (by omega), ih t r h (m + 1) (by omega)⟩) _ r h)

theorem Ev.comp (n : Nat) {t : Task} {r : Res} (h : FS G n t = some r) : Ev G t r := ⟨n, FS_F n t r h⟩

end Go.AI
