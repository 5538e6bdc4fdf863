/- The abstract machine: functions and rounds; the evaluator is sound at each depth. -/
import Derived.Test.YtdpamhejneicdaaGreatDoorZAI18
namespace Go.AI
set_option linter.unusedVariables false
set_option linter.unusedSimpArgs false
open Go

variable {G : Prg} {an : Ann} {E : EE} {B0 : Nat → Prop} {st st0 : St} {ρ ρm ρ' : Env} {σ σ' : Sig} {a : Act} {o : Oper} {tmps : Array Value} {O : Task → Option Res}

/-! ### Boxes are dropped -/

theorem ObjOK.cut {w : World} {ext : Nat → Nat} {ι : List Nat} {SL : Nat → Nat → Option Nat} {id b m : Nat} {o : AObj} (h : ObjOK w ext ι G SL σ id b o) (hb : o.und m) : ObjOK w ext (ι.take m) G SL σ' id b o := by
  cases o with
  | box cs ow =>
    obtain ⟨k1, vs, e, k2, k3, k4, k5⟩ := h
    exact ⟨k1, vs, e, k2, k3.cut m hb, k4, k5⟩
  | loop L =>
    obtain ⟨tmps, bd, an, fn, h1, h2, h3, h4, h4', h6, h5⟩ := h.ex
    exact ⟨tmps, bd, an, fn, h1, h2, h3, h4, h4', h6, fun t => ⟨(h5 t).1, (h5 t).2.1, (h5 t).2.2.1, (h5 t).2.2.2.1, fun v ow hv => ((h5 t).2.2.2.2 v ow hv).cut m (hb t v ow hv)⟩⟩

theorem SR.bel {w : World} {ext : Nat → Nat} {ι : List Nat} {S : Nat → Prop} {SL : Nat → Nat → Option Nat} (h : SR G w ext ι S SL σ) : Bel σ.length σ := by
  intro id o hid ho
  have hι : id < ι.length := by rw [h.len]; exact hid
  have := h.obj id o ι[id] ho (List.getElem?_eq_getElem hι)
  rw [← h.len]
  cases o with
  | box cs ow =>
    obtain ⟨k1, vs, e, k2, k3, k4, k5⟩ := this
    exact k3.undL
  | loop L =>
    obtain ⟨tmps, bd, an, fn, h1, h2, h3, h4, h4', h6, h5⟩ := this.ex
    intro t v ow hv
    exact ((h5 t).2.2.2.2 v ow hv).und

theorem SR.drop {w : World} {ext : Nat → Nat} {ι : List Nat} {S : Nat → Prop} {SL : Nat → Nat → Option Nat} (hP : PrgOK G) (h : SR G w ext ι S SL σ) (m : Nat) (hb : Bel m σ) : SR G w ext (ι.take m) S SL (σ.take m) where
  len := by simp [h.len]
  nodup := h.nodup.sublist (List.take_sublist _ _)
  obj := fun id o b ho hi => by
    have hm : id < m := by
      rcases Nat.lt_or_ge id m with h' | h'
      · exact h'
      · rw [List.getElem?_eq_none (by simp; omega)] at ho; cases ho
    rw [List.getElem?_take_of_lt hm] at ho hi
    exact (h.obj id o b ho hi).cut (hb id o hm ho)
  inS := fun b hb => h.inS b (List.mem_of_mem_take hb)
  ownS := fun id o i b ho hi hs => by
    have hm : id < m := by
      rcases Nat.lt_or_ge id m with h' | h'
      · exact h'
      · rw [List.getElem?_eq_none (by simp; omega)] at ho; cases ho
    rw [List.getElem?_take_of_lt hm] at ho
    have := h.ownS id o i b ho hi hs
    exact ⟨this.1, fun hb => this.2 (List.mem_of_mem_take hb)⟩
  inj := fun id o i id' o' i' b ho hi hs ho' hi' hs' => by
    have hm : ∀ (j : Nat) (p : AObj), (σ.take m)[j]? = some p → σ[j]? = some p := by
      intro j p hp
      rcases Nat.lt_or_ge j m with h' | h'
      · rwa [List.getElem?_take_of_lt h'] at hp
      · rw [List.getElem?_eq_none (by simp; omega)] at hp; cases hp
    exact h.inj id o i id' o' i' b (hm _ _ ho) hi hs (hm _ _ ho') hi' hs'
  small := h.small
  fresh := h.fresh
  globals := fun g a ha => (h.globals g a ha).flatι _ (hP.glob g a ha)

/-! ### A frame begins -/

theorem start_ok {st : St} {args : List AV} {vs : Array Value} (hsr : SR G st.w st.ext st.ι st.S st.SL σ) (hr : Reps st.w st.ext st.ι args vs.toList) (hl : args.length ≤ an.ntmps) :
    OK G an (Fz st) st (startEnv an args) σ (vs ++ Array.replicate (an.ntmps - vs.size) undef) := by
  have hlen := hr.length
  have hcase : ∀ t, startEnv an args t = .none ∨ ∃ v, startEnv an args t = .val v [] ∧ an.loc.contains t = false ∧ Rep st.w st.ext st.ι v ((vs ++ Array.replicate (an.ntmps - vs.size) undef).getD t undef) := by
    intro t
    unfold startEnv
    by_cases hloc : an.loc.contains t = true
    · left; rw [if_pos hloc]
    · rw [if_neg hloc]
      cases hv : args[t]? with
      | some v =>
        obtain ⟨c, hc, hrep⟩ := hr.get hv
        refine .inr ⟨v, rfl, by simpa using hloc, ?_⟩
        have hlt : t < vs.size := by simpa using (List.getElem?_eq_some_iff.1 hc).1
        rw [Array.getD_eq_getD_getElem?, Array.getElem?_append_left hlt]
        have : vs[t]? = some c := by simpa using hc
        rw [this]; exact hrep
      | none =>
        simp only
        split
        · rename_i ht
          refine .inr ⟨.tuple [], rfl, by simpa using hloc, ?_⟩
          have hge : vs.size ≤ t := by
            have := List.getElem?_eq_none_iff.1 hv
            simp at hlen; omega
          rw [Array.getD_eq_getD_getElem?, Array.getElem?_append_right hge, Array.getElem?_replicate, if_pos (by omega)]
          exact .tuple _ _ .nil
        · exact .inl rfl
  have hno : ∀ p b, ¬ Has st.L (startEnv an args) p b := by
    intro p b hp
    cases p with
    | box t =>
      rcases hcase t with h | ⟨v, h, _⟩
      · simp [Has, h, Slot.isLoc] at hp
      · simp [Has, h, Slot.isLoc] at hp
    | own t i =>
      rcases hcase t with h | ⟨v, h, _⟩
      · simp [Has, h, Slot.ows] at hp
      · simp [Has, h, Slot.ows] at hp
  refine ⟨by simp at hlen; simp; omega, fun t => ?_, fun t ht => ?_, fun t s off ht => ?_, fun p b hp => absurd hp (hno p b), fun p q b hp => absurd hp (hno p b), fun b hb => hb.1, fun b hs hb => hb.2 hs, hsr, fun t s n ht => ?_⟩
  · rcases hcase t with h | ⟨v, h, _, hr⟩
    · rw [h]; trivial
    · rw [h]; exact ⟨hr, fun i hi => by cases hi⟩
  · rcases hcase t with h | ⟨v, h, hl, _⟩
    · exact absurd h ht
    · rw [h]; simp only [fitsSlot, hl]; rfl
  · rcases hcase t with h | ⟨v, h, _⟩ <;> rw [h] at ht <;> cases ht
  · rcases hcase t with h | ⟨v, h, _⟩ <;> rw [h] at ht <;> cases ht

/-! ### Results -/

theorem resOf_run (h : OK G an B0 st ρ σ tmps) {r : ResultVar} {v : AV} (hv : resOf G ρ σ r = some v) :
    ∃ c, ((match r with | .tmp t => pure (tmps.getD t undef) | .cell a t => do loadVar t (← asAddr (tmps.getD a undef)) : Sem Value)).run G.P st.w = .ok c st.w ∧ Rep st.w st.ext st.ι v c := by
  cases r with
  | tmp t =>
    simp only [resOf] at hv
    split at hv
    · rename_i v' ow hρ
      simp at hv; subst hv
      have := h.slot t
      rw [hρ] at this
      exact ⟨_, rfl, this.1⟩
    · simp at hv
  | cell x t =>
    simp only [resOf] at hv
    split at hv
    · simp at hv
    · rename_i hty
      have hty : tyOk G.P t = true := eq_true_of_ne_false hty
      have hsl := h.slot x
      split at hv
      · rename_i cs ow hρ
        rw [hρ] at hsl
        obtain ⟨k1, k2, vs, e, k3, k4, k5, k6⟩ := hsl
        obtain ⟨c, hl, hrep, _⟩ := loadVar_run (P := G.P) st.w (st.L.β x) 0 hty k4 k5 (fun i x hx => by rw [cell_row k3, Nat.zero_add]; simpa using hx) 0 hv
        refine ⟨c, ?_, hrep⟩
        simp only [k1, asAddr, Sem.run_bind, Sem.run_pure, Result.andThen_ok]
        exact hl
      · rename_i id off ow hρ
        rw [hρ] at hsl
        split at hv
        · rename_i cs ow' hσ
          obtain ⟨b, hb, he⟩ := rep_ptr_inv hsl.1
          obtain ⟨k2, vs, e, k3, k4, k5, k6⟩ := h.sr.obj id _ b hσ hb
          obtain ⟨c, hl, hrep, _⟩ := loadVar_run (P := G.P) st.w b 0 hty k4 k5 (fun i x hx => by rw [cell_row k3, Nat.zero_add]; simpa using hx) off hv
          refine ⟨c, ?_, hrep⟩
          simp only [he, asAddr, Sem.run_bind, Sem.run_pure, Result.andThen_ok]
          rw [Nat.zero_add] at hl
          exact hl
        · simp at hv
      · simp at hv

theorem mapM_run {P : Program} {w : World} {ext : Nat → Nat} {ι : List Nat} {α : Type} {f : α → Sem Value} {g : α → Option AV} (h : ∀ r v, g r = some v → ∃ c, (f r).run P w = .ok c w ∧ Rep w ext ι v c) :
    ∀ (l : List α) (vs : List AV), l.mapM g = some vs → ∃ cs : List Value, (l.mapM f).run P w = .ok cs w ∧ Reps w ext ι vs cs := by
  intro l
  induction l with
  | nil => intro vs hv; simp at hv; subst hv; exact ⟨[], rfl, .nil⟩
  | cons x l ih =>
    intro vs hv
    simp only [List.mapM_cons, Option.bind_eq_bind, Option.bind_eq_some_iff, Option.pure_def] at hv
    obtain ⟨v, h1, vs', h2, h3⟩ := hv
    simp at h3; subst h3
    obtain ⟨c, hc, hr⟩ := h x v h1
    obtain ⟨cs, hcs, hrs⟩ := ih vs' h2
    refine ⟨c :: cs, ?_, .cons _ _ _ _ hr hrs⟩
    simp only [List.mapM_cons, Sem.run_bind, hc, Result.andThen_ok, hcs, Sem.run_pure]

theorem results_run (h : OK G an B0 st ρ σ tmps) {fn : Func} {vs : List AV} (hv : fn.results.toList.mapM (resOf G ρ σ) = some vs) :
    ∃ c, (results fn tmps).run G.P st.w = .ok c st.w ∧ Rep st.w st.ext st.ι (results1 vs) c := by
  obtain ⟨cs, hcs, hreps⟩ := mapM_run (P := G.P) (w := st.w) (f := fun r => (match r with | .tmp t => pure (tmps.getD t undef) | .cell a t => do loadVar t (← asAddr (tmps.getD a undef)) : Sem Value))
    (fun r v hv => resOf_run h hv) fn.results.toList vs hv
  have hrun : (results fn tmps).run G.P st.w = .ok (if h : cs.toArray.size = 1 then cs.toArray[0] else .tuple cs.toArray) st.w := by
    unfold results
    rw [Array.mapM_eq_mapM_toList]
    rw [Sem.run_bind]
    have hm : ((List.toArray <$> fn.results.toList.mapM fun r => (match r with | .tmp t => pure (tmps.getD t undef) | .cell a t => do loadVar t (← asAddr (tmps.getD a undef)) : Sem Value)) : Sem (Array Value)).run G.P st.w = .ok cs.toArray st.w := by
      simp only [Sem.run_map, hcs, Result.andThen_ok]
    erw [hm]
    rfl
  refine ⟨_, hrun, ?_⟩
  cases hreps with
  | nil => exact .tuple _ _ .nil
  | cons v c vs cs h1 h2 =>
    cases h2 with
    | nil => exact h1
    | cons v' c' vs' cs' h3 h4 =>
      exact .tuple _ _ (.cons _ _ _ _ h1 (.cons _ _ _ _ h3 h4))

end Go.AI
