/- The abstract machine: every operation but calls; what it looks at; two that are apart change places. -/
import Derived.Test.YtdpamhejneicdaaGreatDoorZAIE
namespace Go.AI
set_option linter.unusedVariables false
set_option linter.unusedSimpArgs false
open Go

variable {G : Prg} {an : Ann} {E : EE} {B0 : Nat → Prop} {st : St} {ρ ρm : Env} {σ σ' : Sig} {ups : List (Nat × Slot)} {a : Act} {o : Oper} {tmps : Array Value}

theorem sound_core1 (hcall : isCall o = false) (h : OK G E.an B0 st ρ σ a.tmps) (hs : Sub ρm ρ) (hc : core1 G E o ρm = some ups) (hf : Fit E.an ups) :
    OpGoal G E.an B0 st a o (apply ups ρ) σ := by
  cases ho : o.op with
  | move x => exact sound_move (.inl ho) h hs hc hf
  | assign x => exact sound_move (.inr ho) h hs hc hf
  | pick c x y => exact sound_pick ho h hs hc hf
  | nilCheck x => exact sound_nilCheck ho h hs hc hf
  | binOp op t x y u => exact sound_binOp ho h hs hc hf
  | unOp op t x => exact sound_unOp ho h hs hc hf
  | convert s d x => exact sound_convert ho h hs hc hf
  | makeInterface t x => exact sound_makeInterface ho h hs hc hf
  | makeFunc fn f c => exact sound_makeFunc ho h hs hc hf
  | slice t x lo hi mx => exact sound_slice ho h hs hc hf
  | fieldAddr t x f => exact sound_fieldAddr ho h hs hc hf
  | field t x f => exact sound_field ho h hs hc hf
  | indexAddr t x i => exact sound_indexAddr ho h hs hc hf
  | index t x i => exact sound_index ho h hs hc hf
  | build t parts => exact sound_build ho h hs hc hf
  | buildSlice t len parts => exact sound_buildSlice ho h hs hc hf
  | typeAssert x xt t ok => exact sound_typeAssert ho h hs hc hf
  | extract x i => exact sound_extract ho h hs hc hf
  | call c =>
    obtain ⟨callee, args, tys⟩ := c
    cases callee with
    | builtin b =>
      cases b with
      | append => exact sound_append ho h hs hc hf
      | len => exact sound_len ho h hs hc hf
      | min => exact sound_min ho h hs hc hf
      | max => exact sound_max ho h hs hc hf
      | _ => simp [core1, ho] at hc
    | value f => simp [isCall, ho] at hcall
    | invoke r n => simp [isCall, ho] at hcall
  | _ => simp [core1, ho] at hc

theorem sound_core {ops : Array Oper} (hcall : isCall o = false) (h : OK G E.an B0 st ρ σ a.tmps) (hs : Sub ρm ρ) (hm : ∀ t ∈ rdOf E.an ops o, ρm t = ρ t) (hc : core G E o ρm σ = some (ups, σ')) (hf : Fit E.an ups) :
    OpGoal G E.an B0 st a o (apply ups ρ) σ' := by
  have pass : (∀ t, o.op ≠ .alloc t) → (∀ t x, o.op ≠ .box t x) → (∀ t x, o.op ≠ .load t x) → (∀ t x y, o.op ≠ .store t x y) → OpGoal G E.an B0 st a o (apply ups ρ) σ' := by
    intro h1 h2 h3 h4
    have : core G E o ρm σ = (core1 G E o ρm).map fun u => (u, σ) := by
      unfold core
      cases ho : o.op <;> first | rfl | exact absurd ho (h1 _) | exact absurd ho (h2 _ _) | exact absurd ho (h3 _ _) | exact absurd ho (h4 _ _ _)
    rw [this, Option.map_eq_some_iff] at hc
    obtain ⟨u, hu, hc⟩ := hc
    simp only [Prod.mk.injEq] at hc
    obtain ⟨rfl, rfl⟩ := hc
    exact sound_core1 hcall h hs hu hf
  have hinto : (∀ t, o.op = .alloc t → ∀ d, o.dst = some d → ∀ p ∈ E.an.into, p.2 = d → ρm p.1 = ρ p.1) ∧ (∀ t x, o.op = .box t x → ∀ d, o.dst = some d → ∀ p ∈ E.an.into, p.2 = d → ρm p.1 = ρ p.1) := by
    constructor
    · intro t ho d hd p hp hpd
      refine hm p.1 ?_
      simp only [rdOf, ho, hd, List.mem_append, List.mem_map, List.mem_filter]
      exact .inl (.inr ⟨p, ⟨hp, by simp [hpd]⟩, rfl⟩)
    · intro t x ho d hd p hp hpd
      refine hm p.1 ?_
      simp only [rdOf, ho, hd, List.mem_append, List.mem_map, List.mem_filter]
      exact .inl (.inr ⟨p, ⟨hp, by simp [hpd]⟩, rfl⟩)
  cases ho : o.op with
  | alloc t => exact sound_alloc ho h hs (hinto.1 t ho) hc hf
  | box t x => exact sound_box ho h hs (hinto.2 t x ho) hc hf
  | load t x => exact sound_load ho h hs hc hf
  | store t x y => exact sound_store ho h hs hc hf
  | _ => exact pass (by simp [ho]) (by simp [ho]) (by simp [ho]) (by simp [ho])

/-! ### Boxes that an operation does not look at -/

theorem core_mode {quiet : Bool} (hcall : isCall o = false) (hc : core G E o ρm (if modeOf G E.an quiet o = .no then [] else σ) = some (ups, σ')) :
    core G E o ρm σ = some (ups, if modeOf G E.an quiet o = .write then σ' else σ) := by
  by_cases hw : modeOf G E.an quiet o = .write
  · rw [if_neg (by rw [hw]; simp)] at hc
    rw [if_pos hw]; exact hc
  · rw [if_neg hw]
    have pass : (∀ t, o.op ≠ .alloc t) → (∀ t x, o.op ≠ .box t x) → (∀ t x, o.op ≠ .load t x) → (∀ t x y, o.op ≠ .store t x y) → core G E o ρm σ = some (ups, σ) := by
      intro h1 h2 h3 h4
      have key : ∀ s, core G E o ρm s = (core1 G E o ρm).map fun u => (u, s) := by
        intro s
        unfold core
        cases ho : o.op <;> first | rfl | exact absurd ho (h1 _) | exact absurd ho (h2 _ _) | exact absurd ho (h3 _ _) | exact absurd ho (h4 _ _ _)
      rw [key, Option.map_eq_some_iff] at hc
      obtain ⟨u, hu, hc⟩ := hc
      simp only [Prod.mk.injEq] at hc
      rw [key, hu, ← hc.1]; rfl
    cases ho : o.op with
    | alloc t =>
      cases hd : o.dst with
      | none => simp [core, ho, hd] at hc
      | some d =>
        simp only [modeOf, ho, hd] at hw hc
        by_cases hl : d ∈ E.an.loc
        · simp only [core, ho, hd, Option.bind_eq_bind, Option.bind_eq_some_iff] at hc ⊢
          obtain ⟨cs, h1, d', h2, h3⟩ := hc
          refine ⟨cs, h1, d', h2, ?_⟩
          simp at h2; subst h2
          simp [hl] at h3 ⊢
          exact ⟨h3.1, h3.2.1⟩
        · simp [hl] at hw
    | box t x =>
      cases hd : o.dst with
      | none => simp [core, ho, hd] at hc
      | some d =>
        simp only [modeOf, ho, hd] at hw hc
        simp only [core, ho, hd, Option.bind_eq_bind, Option.bind_eq_some_iff] at hc ⊢
        obtain ⟨v, h1, d', h2, h3⟩ := hc
        refine ⟨v, h1, d', h2, ?_⟩
        simp at h2; subst h2
        split at h3
        · simp at h3
        · rename_i hv
          rw [if_neg hv]
          by_cases hl : d ∈ E.an.loc
          · simp [hl] at h3 ⊢
            exact ⟨h3.1, h3.2.1⟩
          · by_cases hi : t ∈ G.imm
            · simp [hl, hi] at h3 ⊢
              exact h3.1
            · simp [hl, hi] at hw
    | load t x =>
      simp only [core, ho, Option.bind_eq_bind] at hc ⊢
      split at hc
      · simp at hc
      · rename_i hty
        rw [if_neg hty]
        rw [Option.bind_eq_some_iff] at hc ⊢
        obtain ⟨p, hp, hc⟩ := hc
        refine ⟨p, hp, ?_⟩
        cases p with
        | im cs =>
          simp only [Option.bind_eq_some_iff] at hc ⊢
          obtain ⟨v, h1, h2⟩ := hc
          refine ⟨v, h1, ?_⟩
          simp at h2 ⊢
          exact h2.1
        | loc s off =>
          dsimp only at hc ⊢
          split at hc
          · simp only [Option.bind_eq_some_iff] at hc ⊢
            obtain ⟨v, h1, d, h2, h3⟩ := hc
            refine ⟨v, h1, d, h2, ?_⟩
            split at h3
            · rename_i hcond
              rw [if_pos hcond]
              simp at h3 ⊢
              exact h3.1
            · rename_i hcond
              rw [if_neg hcond]
              simp at h3 ⊢
              exact h3.1
          · simp at hc
        | sh id off =>
          dsimp only at hc ⊢
          have hm : modeOf G E.an quiet o ≠ .no := by
            intro hno
            rw [if_pos hno] at hc
            simp at hc
          rw [if_neg hm] at hc
          split at hc
          · simp only [Option.bind_eq_some_iff] at hc ⊢
            obtain ⟨v, h1, d, h2, h3⟩ := hc
            refine ⟨v, h1, d, h2, ?_⟩
            split at h3
            · rename_i hcond
              exfalso
              simp only [modeOf, ho, h2] at hm hw
              split at hm
              · exact hm rfl
              · rename_i he
                have hd : E.an.own.contains d = true := hcond.1
                simp only [he, hd, if_true] at hm hw
                simp at hm hw
                rw [hm] at hw
                cases hw
            · rename_i hcond
              rw [if_neg hcond]
              simp at h3 ⊢
              exact h3.1
          · simp at hc
    | store t x y =>
      simp only [core, ho, Option.bind_eq_bind] at hc ⊢
      rw [Option.bind_eq_some_iff] at hc ⊢
      obtain ⟨v, hv, hc⟩ := hc
      refine ⟨v, hv, ?_⟩
      split at hc
      · simp at hc
      · rename_i hcond
        rw [if_neg hcond]
        rw [Option.bind_eq_some_iff] at hc ⊢
        obtain ⟨p, hp, hc⟩ := hc
        refine ⟨p, hp, ?_⟩
        cases p with
        | im cs => simp at hc
        | loc s off =>
          dsimp only at hc ⊢
          split at hc
          · split at hc
            · rename_i hle
              rw [if_pos hle]
              simp at hc ⊢
              exact hc.1
            · simp at hc
          · simp at hc
        | sh id off =>
          exfalso
          simp only [modeOf, ho] at hw
          have hno : modeOf G E.an quiet o = .no := by
            simp only [modeOf, ho]
            split
            · rename_i he; simp [he] at hw
            · rfl
          rw [if_pos hno] at hc
          simp at hc
    | _ => exact pass (by simp [ho]) (by simp [ho]) (by simp [ho]) (by simp [ho])

/-! ### Two operations that are apart -/

theorem apply_get (ups : List (Nat × Slot)) (t : Nat) : ∀ (ρ ρ' : Env), (∃ u ∈ ups, u.1 = t) ∨ ρ t = ρ' t → apply ups ρ t = apply ups ρ' t := by
  induction ups with
  | nil => intro ρ ρ' h; simpa [apply] using h
  | cons u ups ih =>
    intro ρ ρ' h
    have e : ∀ r, apply (u :: ups) r = apply ups (upd r u.1 u.2) := fun _ => rfl
    rw [e, e]
    apply ih
    by_cases hu : t = u.1
    · right; subst hu; rw [upd_same, upd_same]
    · rcases h with ⟨v, hv, hvt⟩ | h
      · rcases List.mem_cons.1 hv with rfl | hv
        · exact absurd hvt.symm hu
        · exact .inl ⟨v, hv, hvt⟩
      · right; rw [upd_other _ _ _ hu, upd_other _ _ _ hu, h]

theorem apply_same (ups : List (Nat × Slot)) (t : Nat) : ∀ (ρ : Env), (∀ u ∈ ups, u.1 ≠ t) → apply ups ρ t = ρ t := by
  induction ups with
  | nil => intro ρ _; rfl
  | cons u ups ih =>
    intro ρ h
    have e : ∀ r, apply (u :: ups) r = apply ups (upd r u.1 u.2) := fun _ => rfl
    rw [e, ih _ fun v hv => h v (List.mem_cons_of_mem _ hv), upd_other _ _ _ (Ne.symm (h u (by simp)))]

theorem apply_comm (u v : List (Nat × Slot)) (ρ : Env) (h : ∀ x ∈ u, ∀ y ∈ v, x.1 ≠ y.1) : apply u (apply v ρ) = apply v (apply u ρ) := by
  funext t
  by_cases hu : ∃ x ∈ u, x.1 = t
  · obtain ⟨x, hx, rfl⟩ := hu
    rw [apply_same v x.1 (apply u ρ) fun y hy => Ne.symm (h x hx y hy)]
    exact apply_get u x.1 _ _ (.inl ⟨x, hx, rfl⟩)
  · have hu' : ∀ x ∈ u, x.1 ≠ t := fun x hx e => hu ⟨x, hx, e⟩
    rw [apply_same u t _ hu']
    exact apply_get v t _ _ (.inr (apply_same u t _ hu').symm)

theorem mask_apply (l : List Nat) (ups : List (Nat × Slot)) (ρ : Env) (h : ∀ u ∈ ups, u.1 ∉ l) : mask l (apply ups ρ) = mask l ρ := by
  funext t
  unfold mask
  split
  · rename_i ht
    exact apply_same ups t ρ fun u hu e => h u hu (by rw [e]; simpa using ht)
  · rfl

theorem aop_spec {O : Task → Option Res} {ops : Array Oper} {quiet : Bool} {ρ' : Env} (h : aop G E O ops quiet o ρ σ = some (ρ', σ')) :
    ∃ ups s, stepOp G E O ops quiet o (mask (rdOf E.an ops o) ρ) (if modeOf G E.an quiet o = .no then [] else σ) = some (ups, s) ∧ (∀ u ∈ ups, u.1 ∈ wrOf E.an o ∧ u.1 < E.an.ntmps ∧ fitsSlot E.an u.1 u.2 = true) ∧
      ρ' = apply ups ρ ∧ σ' = if modeOf G E.an quiet o = .write then s else σ := by
  unfold aop at h
  split at h
  · simp at h
  · rename_i ups s hs
    split at h
    · rename_i hall
      simp only [Option.some.injEq, Prod.mk.injEq] at h
      refine ⟨ups, s, hs, fun u hu => ?_, h.1.symm, h.2.symm⟩
      rw [List.all_eq_true] at hall
      have := hall u hu
      simp only [Bool.and_eq_true, decide_eq_true_eq, List.contains_iff_mem] at this
      exact ⟨this.1.1, this.1.2, this.2⟩
    · simp at h

theorem aop_mk {O : Task → Option Res} {ops : Array Oper} {quiet : Bool} {s : Sig} (hs : stepOp G E O ops quiet o (mask (rdOf E.an ops o) ρ) (if modeOf G E.an quiet o = .no then [] else σ) = some (ups, s))
    (hall : ∀ u ∈ ups, u.1 ∈ wrOf E.an o ∧ u.1 < E.an.ntmps ∧ fitsSlot E.an u.1 u.2 = true) :
    aop G E O ops quiet o ρ σ = some (apply ups ρ, if modeOf G E.an quiet o = .write then s else σ) := by
  unfold aop
  rw [hs]
  simp only
  rw [if_pos]
  rw [List.all_eq_true]
  intro u hu
  have := hall u hu
  simp [this.1, this.2.1, this.2.2]

/-! ### What a box owns is no reader's -/

def AObj.bare : AObj → AObj
  | .box cs _ => .box cs []
  | o => o

def Sim (σ σ' : Sig) : Prop := ∀ (id : Nat), (σ'[id]?).map AObj.bare = (σ[id]?).map AObj.bare

theorem Sim.refl (σ : Sig) : Sim σ σ := fun _ => rfl
theorem Sim.symm {σ σ' : Sig} (h : Sim σ σ') : Sim σ' σ := fun id => (h id).symm

theorem Sim.box {σ σ' : Sig} (h : Sim σ σ') {id : Nat} {cs : List AV} {ow : List Nat} (hb : σ[id]? = some (.box cs ow)) : ∃ ow', σ'[id]? = some (.box cs ow') := by
  have := h id
  rw [hb] at this
  cases hs : σ'[id]? with
  | none => rw [hs] at this; simp at this
  | some o =>
    rw [hs] at this
    cases o with
    | box cs' ow' =>
      simp [AObj.bare] at this
      subst this; exact ⟨ow', rfl⟩
    | loop L => simp [AObj.bare] at this

theorem Sim.set {σ : Sig} {id : Nat} {cs : List AV} {ow ow' : List Nat} (hb : σ[id]? = some (.box cs ow)) : Sim σ (σ.set id (.box cs ow')) := by
  intro j
  by_cases hj : j = id
  · subst hj
    rw [List.getElem?_set_self (List.getElem?_eq_some_iff.1 hb).1, hb]; rfl
  · rw [List.getElem?_set_ne (Ne.symm hj)]

theorem take_sim {O : Task → Option Res} {ops : Array Oper} {quiet : Bool} {s : Sig} (ht : isTake G E.an quiet o = true) (h : stepOp G E O ops quiet o ρ σ = some (ups, s)) : Sim σ s := by
  unfold isTake at ht
  simp only [Bool.and_eq_true] at ht
  obtain ⟨h1, _⟩ := ht
  cases ho : o.op with
  | load t x =>
    unfold stepOp at h
    split at h
    · simp at h
    · simp at h; rw [← h.2]; exact Sim.refl _
    · rw [if_neg (by simp [isCall, ho])] at h
      split at h
      · rw [Option.map_eq_some_iff] at h
        obtain ⟨u, _, h⟩ := h
        simp only [Prod.mk.injEq] at h
        rw [← h.2]; exact Sim.refl _
      · simp only [core, ho, Option.bind_eq_bind] at h
        split at h
        · simp at h
        · rw [Option.bind_eq_some_iff] at h
          obtain ⟨p, hp, h⟩ := h
          cases p with
          | im cs =>
            simp only [Option.bind_eq_some_iff] at h
            obtain ⟨v, _, h⟩ := h
            simp at h; rw [← h.2]; exact Sim.refl _
          | loc s' off =>
            dsimp only at h
            split at h
            · simp only [Option.bind_eq_some_iff] at h
              obtain ⟨v, _, d, _, h⟩ := h
              split at h <;> (simp at h; rw [← h.2]; exact Sim.refl _)
            · simp at h
          | sh id off =>
            dsimp only at h
            split at h
            · rename_i cs ow hσ
              simp only [Option.bind_eq_some_iff] at h
              obtain ⟨v, _, d, _, h⟩ := h
              split at h
              · simp at h; rw [← h.2]; exact Sim.set hσ
              · simp at h; rw [← h.2]; exact Sim.refl _
            · simp at h
  | _ => rw [ho] at h1; simp at h1

theorem read_sim {O : Task → Option Res} {ops : Array Oper} {quiet : Bool} {s σ2 : Sig} (hm : modeOf G E.an quiet o = .read) (hs : Sim σ σ2) (h : stepOp G E O ops quiet o ρ σ = some (ups, s)) :
    ∃ s2, stepOp G E O ops quiet o ρ σ2 = some (ups, s2) := by
  have hload : ∃ t x, o.op = .load t x := by
    unfold modeOf at hm
    split at hm <;> first | exact ⟨_, _, ‹_›⟩ | (exfalso; revert hm; repeat' split) <;> simp
  obtain ⟨t, x, ho⟩ := hload
  have hown : ∀ d, o.dst = some d → E.an.own.contains d = false := by
    intro d hd
    cases hc : E.an.own.contains d with
    | false => rfl
    | true =>
      exfalso
      simp only [modeOf, ho, hd, hc, if_true] at hm
      repeat' split at hm
      all_goals simp_all
  have key : ∀ s, stepOp G E O ops quiet o ρ s = (match want ρ ops o with | none => none | some false => some (puts o.dst (.val (.tuple []) []), s) | some true => (match arrOp G E o ρ with | some r => r.map fun u => (u, s) | none => core G E o ρ s)) := by
    intro s
    unfold stepOp
    cases want ρ ops o with
    | none => rfl
    | some b =>
      cases b with
      | false => rfl
      | true => simp only; rw [if_neg (by simp [isCall, ho])]; cases arrOp G E o ρ <;> rfl
  rw [key] at h ⊢
  cases hw : want ρ ops o with
  | none => rw [hw] at h; simp at h
  | some b =>
   cases b with
   | false =>
    rw [hw] at h
    simp at h
    exact ⟨_, by rw [h.1]⟩
   | true =>
    rw [hw] at h
    simp only at h ⊢
    cases hr : arrOp G E o ρ with
    | some r =>
      rw [hr] at h
      simp only at h
      rw [Option.map_eq_some_iff] at h
      obtain ⟨u, rfl, h⟩ := h
      simp only [Prod.mk.injEq] at h
      obtain ⟨rfl, rfl⟩ := h
      exact ⟨σ2, by simp [hr]⟩
    | none =>
      rw [hr] at h
      simp only at h
      simp only [core, ho, Option.bind_eq_bind] at h ⊢
      split at h
      · simp at h
      · rename_i hty
        rw [if_neg hty]
        rw [Option.bind_eq_some_iff] at h
        obtain ⟨p, hp, h⟩ := h
        simp only [hp, Option.bind_some]
        cases p with
        | im cs =>
          simp only [Option.bind_eq_some_iff] at h
          obtain ⟨v, hv, h⟩ := h
          simp at h
          exact ⟨σ2, by simp [hv, h.1]⟩
        | loc s' off =>
          dsimp only at h ⊢
          split at h
          · rename_i cs ow hρ
            simp only [Option.bind_eq_some_iff] at h
            obtain ⟨v, hv, d, hd, h⟩ := h
            rw [if_neg (by rw [hown d hd]; simp)] at h
            simp at h
            refine ⟨σ2, ?_⟩
            simp only [hv, hd, Option.bind_some]
            rw [if_neg (by rw [hown d hd]; simp)]
            rw [← h.1, hd]
          · simp at h
        | sh id off =>
          dsimp only at h ⊢
          split at h
          · rename_i cs ow hσ
            obtain ⟨ow', hσ2⟩ := hs.box hσ
            simp only [Option.bind_eq_some_iff] at h
            obtain ⟨v, hv, d, hd, h⟩ := h
            rw [if_neg (by rw [hown d hd]; simp)] at h
            simp at h
            refine ⟨σ2, ?_⟩
            simp only [hσ2, hv, hd, Option.bind_some]
            rw [if_neg (by rw [hown d hd]; simp)]
            rw [← h.1, hd]
          · simp at h

theorem aop_swap {O : Task → Option Res} {ops : Array Oper} {quiet : Bool} {p q : Oper} {ρ1 ρ2 : Env} {σ1 σ2 : Sig} (hi : indep G E.an quiet ops p q = true)
    (h1 : aop G E O ops quiet p ρ σ = some (ρ1, σ1)) (h2 : aop G E O ops quiet q ρ1 σ1 = some (ρ2, σ2)) :
    ∃ ρ3 σ3, aop G E O ops quiet q ρ σ = some (ρ3, σ3) ∧ aop G E O ops quiet p ρ3 σ3 = some (ρ2, σ2) := by
  obtain ⟨u, s, hu, hua, rfl, rfl⟩ := aop_spec h1
  obtain ⟨v, s', hv, hva, rfl, rfl⟩ := aop_spec h2
  simp only [indep, Bool.and_eq_true, List.all_eq_true, Bool.not_eq_true', List.contains_eq_mem, decide_eq_false_iff_not] at hi
  obtain ⟨⟨i1, i2⟩, i3⟩ := hi
  have m1 : mask (rdOf E.an ops q) (apply u ρ) = mask (rdOf E.an ops q) ρ := mask_apply _ _ _ fun x hx => (i1 x.1 (hua x hx).1).1
  have m2 : mask (rdOf E.an ops p) (apply v ρ) = mask (rdOf E.an ops p) ρ := mask_apply _ _ _ fun x hx => i2 x.1 (hva x hx).1
  have hcomm : apply v (apply u ρ) = apply u (apply v ρ) := (apply_comm u v ρ fun x hx y hy e => (i1 x.1 (hua x hx).1).2 (by rw [e]; exact (hva y hy).1)).symm
  rw [m1] at hv
  -- a load that takes over, and one that reads
  by_cases hpr : modeOf G E.an quiet p = .read ∧ modeOf G E.an quiet q = .write
  · obtain ⟨hp, hq⟩ := hpr
    rw [hp, hq] at i3
    simp only at i3
    rw [hp] at hv
    rw [hp] at hu
    rw [hq] at hv
    simp only [reduceCtorEq, if_false] at hu hv
    obtain ⟨s2, hs2⟩ := read_sim hp (take_sim i3 hv) hu
    have k1 := aop_mk (ρ := ρ) (σ := σ) (o := q) (s := s') (by rw [hq]; simpa using hv) hva
    rw [hq] at k1
    simp only [if_true] at k1
    refine ⟨_, _, k1, ?_⟩
    have k2 := aop_mk (ρ := apply v ρ) (σ := s') (o := p) (s := s2) (by rw [m2, hp]; simpa using hs2) hua
    rw [hp] at k2
    simp only [reduceCtorEq, if_false] at k2
    rw [k2, hcomm, hq]
    simp
  by_cases hpw : modeOf G E.an quiet p = .write ∧ modeOf G E.an quiet q = .read
  · obtain ⟨hp, hq⟩ := hpw
    rw [hp, hq] at i3
    simp only at i3
    rw [hp, hq] at hv
    rw [hp] at hu
    simp only [reduceCtorEq, if_false, if_true] at hu hv
    obtain ⟨s2, hs2⟩ := read_sim hq (take_sim i3 hu).symm hv
    have k1 := aop_mk (ρ := ρ) (σ := σ) (o := q) (s := s2) (by rw [hq]; simpa using hs2) hva
    rw [hq] at k1
    simp only [reduceCtorEq, if_false] at k1
    refine ⟨_, _, k1, ?_⟩
    have k2 := aop_mk (ρ := apply v ρ) (σ := σ) (o := p) (s := s) (by rw [m2, hp]; simpa using hu) hua
    rw [hp] at k2
    simp only [if_true] at k2
    rw [k2, hcomm, hq, hp]
    simp
  have hσ : (if modeOf G E.an quiet q = .no then [] else if modeOf G E.an quiet p = .write then s else σ) = (if modeOf G E.an quiet q = .no then [] else σ) := by
    cases hp : modeOf G E.an quiet p <;> cases hq : modeOf G E.an quiet q <;> simp_all
  rw [hσ] at hv
  refine ⟨apply v ρ, if modeOf G E.an quiet q = .write then s' else σ, aop_mk hv hva, ?_⟩
  have hσ' : (if modeOf G E.an quiet p = .no then [] else if modeOf G E.an quiet q = .write then s' else σ) = (if modeOf G E.an quiet p = .no then [] else σ) := by
    cases hp : modeOf G E.an quiet p <;> cases hq : modeOf G E.an quiet q <;> simp_all
  have := aop_mk (ρ := apply v ρ) (σ := if modeOf G E.an quiet q = .write then s' else σ) (by rw [m2, hσ']; exact hu) hua
  rw [this, hcomm]
  congr 2
  cases hp : modeOf G E.an quiet p <;> cases hq : modeOf G E.an quiet q <;> simp_all

end Go.AI
