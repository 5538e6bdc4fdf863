/- The abstract machine: every operation but calls; what it looks at; two that are apart change places. -/
import Derived.Test.YtdpamhejneicdaaGreatDoorZGC
namespace Go.AI
set_option linter.unusedVariables false
set_option linter.unusedSimpArgs false
open Go

variable {G : Prg} {an : Ann} {E : EE} {B0 : Nat → Prop} {st : St} {ρ ρm : Env} {σ σ' : Sig} {ups : List (Nat × Slot)} {a : Act} {o : Oper} {tmps : Array Value}

theorem sound_core1 (hcall : isCall o = false) (h : OK G E.an B0 st ρ σ a.tmps) (hs : Sub ρm ρ) (hc : core1 G E o ρm = some ups) (hf : Fit E.an ups) :
    OpGoal G E.an B0 st a o (apply ups ρ) σ := by
  cases ho : o.op with
  | move x => exact sound_move (.inl ho) h hs hc hf
  | assign x => exact sound_move (.inr ho) h hs hc hf
  | pick c x y => exact sound_pick ho h hs hc hf
  | nilCheck x => exact sound_nilCheck ho h hs hc hf
  | binOp op t x y u => exact sound_binOp ho h hs hc hf
  | unOp op t x => exact sound_unOp ho h hs hc hf
  | convert s d x => exact sound_convert ho h hs hc hf
  | makeInterface t x => exact sound_makeInterface ho h hs hc hf
  | makeFunc fn f c => exact sound_makeFunc ho h hs hc hf
  | slice t x lo hi mx => exact sound_slice ho h hs hc hf
  | fieldAddr t x f => exact sound_fieldAddr ho h hs hc hf
  | field t x f => exact sound_field ho h hs hc hf
  | indexAddr t x i => exact sound_indexAddr ho h hs hc hf
  | index t x i => exact sound_index ho h hs hc hf
  | build t parts => exact sound_build ho h hs hc hf
  | buildSlice t len parts => exact sound_buildSlice ho h hs hc hf
  | typeAssert x xt t ok => exact sound_typeAssert ho h hs hc hf
  | extract x i => exact sound_extract ho h hs hc hf
  | call c =>
    obtain ⟨callee, args, tys⟩ := c
    cases callee with
    | builtin b =>
      cases b with
      | append => exact sound_append ho h hs hc hf
      | len => exact sound_len ho h hs hc hf
      | min => exact sound_min ho h hs hc hf
      | max => exact sound_max ho h hs hc hf
      | _ => simp [core1, ho] at hc
    | value f => simp [isCall, ho] at hcall
    | invoke r n => simp [isCall, ho] at hcall
  | _ => simp [core1, ho] at hc

theorem sound_core {ops : Array Oper} (hcall : isCall o = false) (h : OK G E.an B0 st ρ σ a.tmps) (hs : Sub ρm ρ) (hm : ∀ t ∈ rdOf E.an ops o, ρm t = ρ t) (hc : core G E o ρm σ = some (ups, σ')) (hf : Fit E.an ups) :
    OpGoal G E.an B0 st a o (apply ups ρ) σ' := by
  have pass : (∀ t, o.op ≠ .alloc t) → (∀ t x, o.op ≠ .box t x) → (∀ t x, o.op ≠ .load t x) → (∀ t x y, o.op ≠ .store t x y) → OpGoal G E.an B0 st a o (apply ups ρ) σ' := by
    intro h1 h2 h3 h4
    have : core G E o ρm σ = (core1 G E o ρm).map fun u => (u, σ) := by
      unfold core
      cases ho : o.op <;> first | rfl | exact absurd ho (h1 _) | exact absurd ho (h2 _ _) | exact absurd ho (h3 _ _) | exact absurd ho (h4 _ _ _)
    rw [this, Option.map_eq_some_iff] at hc
    obtain ⟨u, hu, hc⟩ := hc
    simp only [Prod.mk.injEq] at hc
    obtain ⟨rfl, rfl⟩ := hc
    exact sound_core1 hcall h hs hu hf
  have hinto : (∀ t, o.op = .alloc t → ∀ d, o.dst = some d → ∀ p ∈ E.an.into, p.2 = d → ρm p.1 = ρ p.1) ∧ (∀ t x, o.op = .box t x → ∀ d, o.dst = some d → ∀ p ∈ E.an.into, p.2 = d → ρm p.1 = ρ p.1) := by
    constructor
    · intro t ho d hd p hp hpd
      refine hm p.1 ?_
      simp only [rdOf, ho, hd, List.mem_append, List.mem_map, List.mem_filter]
      exact .inl (.inr ⟨p, ⟨hp, by simp [hpd]⟩, rfl⟩)
    · intro t x ho d hd p hp hpd
      refine hm p.1 ?_
      simp only [rdOf, ho, hd, List.mem_append, List.mem_map, List.mem_filter]
      exact .inl (.inr ⟨p, ⟨hp, by simp [hpd]⟩, rfl⟩)
  cases ho : o.op with
  | alloc t => exact sound_alloc ho h hs (hinto.1 t ho) hc hf
  | box t x => exact sound_box ho h hs (hinto.2 t x ho) hc hf
  | load t x => exact sound_load ho h hs hc hf
  | store t x y => exact sound_store ho h hs hc hf
  | _ => exact pass (by simp [ho]) (by simp [ho]) (by simp [ho]) (by simp [ho])

/-! ### Boxes that an operation does not look at -/

theorem core_mode {quiet : Bool} (hcall : isCall o = false) (hc : core G E o ρm (if modeOf G E.an quiet o = .no then [] else σ) = some (ups, σ')) :
    core G E o ρm σ = some (ups, if modeOf G E.an quiet o = .write then σ' else σ) := by
  by_cases hw : modeOf G E.an quiet o = .write
  · rw [if_neg (by rw [hw]; simp)] at hc
    rw [if_pos hw]; exact hc
  · rw [if_neg hw]
    have pass : (∀ t, o.op ≠ .alloc t) → (∀ t x, o.op ≠ .box t x) → (∀ t x, o.op ≠ .load t x) → (∀ t x y, o.op ≠ .store t x y) → core G E o ρm σ = some (ups, σ) := by
      intro h1 h2 h3 h4
      have key : ∀ s, core G E o ρm s = (core1 G E o ρm).map fun u => (u, s) := by
        intro s
        unfold core
        cases ho : o.op <;> first | rfl | exact absurd ho (h1 _) | exact absurd ho (h2 _ _) | exact absurd ho (h3 _ _) | exact absurd ho (h4 _ _ _)
      rw [key, Option.map_eq_some_iff] at hc
      obtain ⟨u, hu, hc⟩ := hc
      simp only [Prod.mk.injEq] at hc
      rw [key, hu, ← hc.1]; rfl
    cases ho : o.op with
    | alloc t =>
      cases hd : o.dst with
      | none => simp [core, ho, hd] at hc
      | some d =>
        simp only [modeOf, ho, hd] at hw hc
        by_cases hl : d ∈ E.an.loc
        · simp only [core, ho, hd, Option.bind_eq_bind, Option.bind_eq_some_iff] at hc ⊢
          obtain ⟨cs, h1, d', h2, h3⟩ := hc
          refine ⟨cs, h1, d', h2, ?_⟩
          simp at h2; subst h2
          simp [hl] at h3 ⊢
          exact ⟨h3.1, h3.2.1⟩
        · simp [hl] at hw
    | box t x =>
      cases hd : o.dst with
      | none => simp [core, ho, hd] at hc
      | some d =>
        simp only [modeOf, ho, hd] at hw hc
        simp only [core, ho, hd, Option.bind_eq_bind, Option.bind_eq_some_iff] at hc ⊢
        obtain ⟨v, h1, d', h2, h3⟩ := hc
        refine ⟨v, h1, d', h2, ?_⟩
        simp at h2; subst h2
        split at h3
        · simp at h3
        · rename_i hv
          rw [if_neg hv]
          by_cases hl : d ∈ E.an.loc
          · simp [hl] at h3 ⊢
            exact ⟨h3.1, h3.2.1⟩
          · by_cases hi : t ∈ G.imm
            · simp [hl, hi] at h3 ⊢
              exact h3.1
            · simp [hl, hi] at hw
    | load t x =>
      simp only [core, ho, Option.bind_eq_bind] at hc ⊢
      split at hc
      · simp at hc
      · rename_i hty
        rw [if_neg hty]
        rw [Option.bind_eq_some_iff] at hc ⊢
        obtain ⟨p, hp, hc⟩ := hc
        refine ⟨p, hp, ?_⟩
        cases p with
        | im cs =>
          simp only [Option.bind_eq_some_iff] at hc ⊢
          obtain ⟨v, h1, h2⟩ := hc
          refine ⟨v, h1, ?_⟩
          simp at h2 ⊢
          exact h2.1
        | loc s off =>
          dsimp only at hc ⊢
          split at hc
          · simp only [Option.bind_eq_some_iff] at hc ⊢
            obtain ⟨v, h1, d, h2, h3⟩ := hc
            refine ⟨v, h1, d, h2, ?_⟩
            split at h3
            · rename_i hcond
              rw [if_pos hcond]
              simp at h3 ⊢
              exact h3.1
            · rename_i hcond
              rw [if_neg hcond]
              simp at h3 ⊢
              exact h3.1
          · simp at hc
        | sh id off =>
          dsimp only at hc ⊢
          have hm : modeOf G E.an quiet o ≠ .no := by
            intro hno
            rw [if_pos hno] at hc
            simp at hc
          rw [if_neg hm] at hc
          split at hc
          · simp only [Option.bind_eq_some_iff] at hc ⊢
            obtain ⟨v, h1, d, h2, h3⟩ := hc
            refine ⟨v, h1, d, h2, ?_⟩
            split at h3
            · rename_i hcond
              exfalso
              simp only [modeOf, ho, h2] at hm hw
              split at hm
              · exact hm rfl
              · rename_i he
                have hd : E.an.own.contains d = true := hcond.1
                simp only [he, hd, if_true] at hm hw
                simp at hm hw
                rw [hm] at hw
                cases hw
            · rename_i hcond
              rw [if_neg hcond]
              simp at h3 ⊢
              exact h3.1
          · simp at hc
    | store t x y =>
      simp only [core, ho, Option.bind_eq_bind] at hc ⊢
      rw [Option.bind_eq_some_iff] at hc ⊢
      obtain ⟨v, hv, hc⟩ := hc
      refine ⟨v, hv, ?_⟩
      split at hc
      · simp at hc
      · rename_i hcond
        rw [if_neg hcond]
        rw [Option.bind_eq_some_iff] at hc ⊢
        obtain ⟨p, hp, hc⟩ := hc
        refine ⟨p, hp, ?_⟩
        cases p with
        | im cs => simp at hc
        | loc s off =>
          dsimp only at hc ⊢
          split at hc
          · split at hc
            · rename_i hle
              rw [if_pos hle]
              simp at hc ⊢
              exact hc.1
            · simp at hc
          · simp at hc
        | sh id off =>
          exfalso
          simp only [modeOf, ho] at hw
          have hno : modeOf G E.an quiet o = .no := by
            simp only [modeOf, ho]
            split
            · rename_i he; simp [he] at hw
            · rfl
          rw [if_pos hno] at hc
          simp at hc
    | _ => exact pass (by simp [ho]) (by simp [ho]) (by simp [ho]) (by simp [ho])

/-! ### Two operations that are apart -/

theorem apply_get (ups : List (Nat × Slot)) (t : Nat) : ∀ (ρ ρ' : Env), (∃ u ∈ ups, u.1 = t) ∨ ρ t = ρ' t → apply ups ρ t = apply ups ρ' t := by
  induction ups with
  | nil => intro ρ ρ' h; simpa [apply] using h
  | cons u ups ih =>
    intro ρ ρ' h
    have e : ∀ r, apply (u :: ups) r = apply ups (upd r u.1 u.2) := fun _ => rfl
    rw [e, e]
    apply ih
    by_cases hu : t = u.1
    · right; subst hu; rw [upd_same, upd_same]
    · rcases h with ⟨v, hv, hvt⟩ | h
      · rcases List.mem_cons.1 hv with rfl | hv
        · exact absurd hvt.symm hu
        · exact .inl ⟨v, hv, hvt⟩
      · right; rw [upd_other _ _ _ hu, upd_other _ _ _ hu, h]

theorem apply_same (ups : List (Nat × Slot)) (t : Nat) : ∀ (ρ : Env), (∀ u ∈ ups, u.1 ≠ t) → apply ups ρ t = ρ t := by
  induction ups with
  | nil => intro ρ _; rfl
  | cons u ups ih =>
    intro ρ h
    have e : ∀ r, apply (u :: ups) r = apply ups (upd r u.1 u.2) := fun _ => rfl
    rw [e, ih _ fun v hv => h v (List.mem_cons_of_mem _ hv), upd_other _ _ _ (Ne.symm (h u (by simp)))]

theorem apply_comm (u v : List (Nat × Slot)) (ρ : Env) (h : ∀ x ∈ u, ∀ y ∈ v, x.1 ≠ y.1) : apply u (apply v ρ) = apply v (apply u ρ) := by
  funext t
  by_cases hu : ∃ x ∈ u, x.1 = t
  · obtain ⟨x, hx, rfl⟩ := hu
    rw [apply_same v x.1 (apply u ρ) fun y hy => Ne.symm (h x hx y hy)]
    exact apply_get u x.1 _ _ (.inl ⟨x, hx, rfl⟩)
  · have hu' : ∀ x ∈ u, x.1 ≠ t := fun x hx e => hu ⟨x, hx, e⟩
    rw [apply_same u t _ hu']
    exact apply_get v t _ _ (.inr (apply_same u t _ hu').symm)

theorem mask_apply (l : List Nat) (ups : List (Nat × Slot)) (ρ : Env) (h : ∀ u ∈ ups, u.1 ∉ l) : mask l (apply ups ρ) = mask l ρ := by
  funext t
  unfold mask
  split
  · rename_i ht
    exact apply_same ups t ρ fun u hu e => h u hu (by rw [e]; simpa using ht)
  · rfl

theorem aop_spec {O : Task → Option Res} {ops : Array Oper} {quiet : Bool} {ρ' : Env} (h : aop G E O ops quiet o ρ σ = some (ρ', σ')) :
    ∃ ups s, stepOp G E O ops quiet o (mask (rdOf E.an ops o) ρ) (if modeOf G E.an quiet o = .no then [] else σ) = some (ups, s) ∧ (∀ u ∈ ups, u.1 ∈ wrOf E.an o ∧ u.1 < E.an.ntmps ∧ fitsSlot E.an u.1 u.2 = true) ∧
      ρ' = apply ups ρ ∧ σ' = if modeOf G E.an quiet o = .write then s else σ := by
  unfold aop at h
  split at h
  · simp at h
  · rename_i ups s hs
    split at h
    · rename_i hall
      simp only [Option.some.injEq, Prod.mk.injEq] at h
      refine ⟨ups, s, hs, fun u hu => ?_, h.1.symm, h.2.symm⟩
      rw [List.all_eq_true] at hall
      have := hall u hu
      simp only [Bool.and_eq_true, decide_eq_true_eq, List.contains_iff_mem] at this
      exact ⟨this.1.1, this.1.2, this.2⟩
    · simp at h

theorem aop_mk {O : Task → Option Res} {ops : Array Oper} {quiet : Bool} {s : Sig} (hs : stepOp G E O ops quiet o (mask (rdOf E.an ops o) ρ) (if modeOf G E.an quiet o = .no then [] else σ) = some (ups, s))
    (hall : ∀ u ∈ ups, u.1 ∈ wrOf E.an o ∧ u.1 < E.an.ntmps ∧ fitsSlot E.an u.1 u.2 = true) :
    aop G E O ops quiet o ρ σ = some (apply ups ρ, if modeOf G E.an quiet o = .write then s else σ) := by
  unfold aop
  rw [hs]
  simp only
  rw [if_pos]
  rw [List.all_eq_true]
  intro u hu
  have := hall u hu
  simp [this.1, this.2.1, this.2.2]

/-! ### What a box owns is no reader's -/

def AObj.bare : AObj → AObj
  | .box cs _ => .box cs []
  | o => o

def Sim (σ σ' : Sig) : Prop := ∀ (id : Nat), (σ'[id]?).map AObj.bare = (σ[id]?).map AObj.bare

theorem Sim.refl (σ : Sig) : Sim σ σ := fun _ => rfl
theorem Sim.symm {σ σ' : Sig} (h : Sim σ σ') : Sim σ' σ := fun id => (h id).symm

theorem Sim.box {σ σ' : Sig} (h : Sim σ σ') {id : Nat} {cs : List AV} {ow : List Nat} (hb : σ[id]? = some (.box cs ow)) : ∃ ow', σ'[id]? = some (.box cs ow') := by
  have := h id
  rw [hb] at this
  cases hs : σ'[id]? with
  | none => rw [hs] at this; simp at this
  | some o =>
    rw [hs] at this
    cases o with
    | box cs' ow' =>
      simp [AObj.bare] at this
      subst this; exact ⟨ow', rfl⟩
    | loop L => simp [AObj.bare] at this

theorem Sim.set {σ : Sig} {id : Nat} {cs : List AV} {ow ow' : List Nat} (hb : σ[id]? = some (.box cs ow)) : Sim σ (σ.set id (.box cs ow')) := by
  intro j
  by_cases hj : j = id
  · subst hj
    rw [List.getElem?_set_self (List.getElem?_eq_some_iff.1 hb).1, hb]; rfl
  · rw [List.getElem?_set_ne (Ne.symm hj)]

theorem take_sim {O : Task → Option Res} {ops : Array Oper} {quiet : Bool} {s : Sig} (ht : isTake G E.an quiet o = true) (h : stepOp G E O ops quiet o ρ σ = some (ups, s)) : Sim σ s := by
  unfold isTake at ht
  simp only [Bool.and_eq_true] at ht
  obtain ⟨h1, _⟩ := ht
  cases ho : o.op with
  | load t x =>
    unfold stepOp at h
    split at h
    · simp at h
    · simp at h; rw [← h.2]; exact Sim.refl _
    · rw [if_neg (by simp [isCall, ho])] at h
      split at h
      · rw [Option.map_eq_some_iff] at h
        obtain ⟨u, _, h⟩ := h
        simp only [Prod.mk.injEq] at h
        rw [← h.2]; exact Sim.refl _
      · simp only [core, ho, Option.bind_eq_bind] at h
        split at h
        · simp at h
        · rw [Option.bind_eq_some_iff] at h
          obtain ⟨p, hp, h⟩ := h
          cases p with
          | im cs =>
            simp only [Option.bind_eq_some_iff] at h
            obtain ⟨v, _, h⟩ := h
            simp at h; rw [← h.2]; exact Sim.refl _
          | loc s' off =>
            dsimp only at h
            split at h
            · simp only [Option.bind_eq_some_iff] at h
              obtain ⟨v, _, d, _, h⟩ := h
              split at h <;> (simp at h; rw [← h.2]; exact Sim.refl _)
            · simp at h
          | sh id off =>
            dsimp only at h
            split at h
            · rename_i cs ow hσ
              simp only [Option.bind_eq_some_iff] at h
              obtain ⟨v, _, d, _, h⟩ := h
              split at h
              · simp at h; rw [← h.2]; exact Sim.set hσ
              · simp at h; rw [← h.2]; exact Sim.refl _
            · simp at h
  | _ => rw [ho] at h1; simp at h1

theorem read_sim {O : Task → Option Res} {ops : Array Oper} {quiet : Bool} {s σ2 : Sig} (hm : modeOf G E.an quiet o = .read) (hs : Sim σ σ2) (h : stepOp G E O ops quiet o ρ σ = some (ups, s)) :
    ∃ s2, stepOp G E O ops quiet o ρ σ2 = some (ups, s2) := by
  have hload : ∃ t x, o.op = .load t x := by
    unfold modeOf at hm
    split at hm <;> first | exact ⟨_, _, ‹_›⟩ | (exfalso; revert hm; repeat' split) <;> simp
  obtain ⟨t, x, ho⟩ := hload
  have hown : ∀ d, o.dst = some d → E.an.own.contains d = false := by
    intro d hd
    cases hc : E.an.own.contains d with
    | false => rfl
    | true =>
      exfalso
      simp only [modeOf, ho, hd, hc, if_true] at hm
      repeat' split at hm
      all_goals simp_all
  have key : ∀ s, stepOp G E O ops quiet o ρ s = (match want ρ ops o with | none => none | some false => some (puts o.dst (.val (.tuple []) []), s) | some true => (match arrOp G E o ρ with | some r => r.map fun u => (u, s) | none => core G E o ρ s)) := by
    intro s
    unfold stepOp
    cases want ρ ops o with
    | none => rfl
    | some b =>
      cases b with
      | false => rfl
      | true => simp only; rw [if_neg (by simp [isCall, ho])]; cases arrOp G E o ρ <;> rfl
  rw [key] at h ⊢
  cases hw : want ρ ops o with
  | none => rw [hw] at h; simp at h
  | some b =>
   cases b with
   | false =>
    rw [hw] at h
    simp at h
    exact ⟨_, by rw [h.1]⟩
   | true =>
    rw [hw] at h
    simp only at h ⊢
    cases hr : arrOp G E o ρ with
    | some r =>
      rw [hr] at h
      simp only at h
      rw [Option.map_eq_some_iff] at h
      obtain ⟨u, rfl, h⟩ := h
      simp only [Prod.mk.injEq] at h
      obtain ⟨rfl, rfl⟩ := h
      exact ⟨σ2, by simp [hr]⟩
    | none =>
      rw [hr] at h
      simp only at h
      simp only [core, ho, Option.bind_eq_bind] at h ⊢
      split at h
      · simp at h
      · rename_i hty
        rw [if_neg hty]
        rw [Option.bind_eq_some_iff] at h
        obtain ⟨p, hp, h⟩ := h
        simp only [hp, Option.bind_some]
        cases p with
        | im cs =>
          simp only [Option.bind_eq_some_iff] at h
          obtain ⟨v, hv, h⟩ := h
          simp at h
          exact ⟨σ2, by simp [hv, h.1]⟩
        | loc s' off =>
          dsimp only at h ⊢
          split at h
          · rename_i cs ow hρ
            simp only [Option.bind_eq_some_iff] at h
            obtain ⟨v, hv, d, hd, h⟩ := h
            rw [if_neg (by rw [hown d hd]; simp)] at h
            simp at h
            refine ⟨σ2, ?_⟩
            simp only [hv, hd, Option.bind_some]
            rw [if_neg (by rw [hown d hd]; simp)]
            rw [← h.1, hd]
          · simp at h
        | sh id off =>
          dsimp only at h ⊢
          split at h
          · rename_i cs ow hσ
            obtain ⟨ow', hσ2⟩ := hs.box hσ
            simp only [Option.bind_eq_some_iff] at h
            obtain ⟨v, hv, d, hd, h⟩ := h
            rw [if_neg (by rw [hown d hd]; simp)] at h
            simp at h
            refine ⟨σ2, ?_⟩
            simp only [hσ2, hv, hd, Option.bind_some]
            rw [if_neg (by rw [hown d hd]; simp)]
            rw [← h.1, hd]
          · simp at h

theorem aop_swap {O : Task → Option Res} {ops : Array Oper} {quiet : Bool} {p q : Oper} {ρ1 ρ2 : Env} {σ1 σ2 : Sig} (hi : indep G E.an quiet ops p q = true)
    (h1 : aop G E O ops quiet p ρ σ = some (ρ1, σ1)) (h2 : aop G E O ops quiet q ρ1 σ1 = some (ρ2, σ2)) :
    ∃ ρ3 σ3, aop G E O ops quiet q ρ σ = some (ρ3, σ3) ∧ aop G E O ops quiet p ρ3 σ3 = some (ρ2, σ2) := by
  obtain ⟨u, s, hu, hua, rfl, rfl⟩ := aop_spec h1
  obtain ⟨v, s', hv, hva, rfl, rfl⟩ := aop_spec h2
  simp only [indep, Bool.and_eq_true, List.all_eq_true, Bool.not_eq_true', List.contains_eq_mem, decide_eq_false_iff_not] at hi
  obtain ⟨⟨i1, i2⟩, i3⟩ := hi
  have m1 : mask (rdOf E.an ops q) (apply u ρ) = mask (rdOf E.an ops q) ρ := mask_apply _ _ _ fun x hx => (i1 x.1 (hua x hx).1).1
  have m2 : mask (rdOf E.an ops p) (apply v ρ) = mask (rdOf E.an ops p) ρ := mask_apply _ _ _ fun x hx => i2 x.1 (hva x hx).1
  have hcomm : apply v (apply u ρ) = apply u (apply v ρ) := (apply_comm u v ρ fun x hx y hy e => (i1 x.1 (hua x hx).1).2 (by rw [e]; exact (hva y hy).1)).symm
  rw [m1] at hv
  -- a load that takes over, and one that reads
  by_cases hpr : modeOf G E.an quiet p = .read ∧ modeOf G E.an quiet q = .write
  · obtain ⟨hp, hq⟩ := hpr
    rw [hp, hq] at i3
    simp only at i3
    rw [hp] at hv
    rw [hp] at hu
    rw [hq] at hv
    simp only [reduceCtorEq, if_false] at hu hv
    obtain ⟨s2, hs2⟩ := read_sim hp (take_sim i3 hv) hu
    have k1 := aop_mk (ρ := ρ) (σ := σ) (o := q) (s := s') (by rw [hq]; simpa using hv) hva
    rw [hq] at k1
    simp only [if_true] at k1
    refine ⟨_, _, k1, ?_⟩
    have k2 := aop_mk (ρ := apply v ρ) (σ := s') (o := p) (s := s2) (by rw [m2, hp]; simpa using hs2) hua
    rw [hp] at k2
    simp only [reduceCtorEq, if_false] at k2
    rw [k2, hcomm, hq]
    simp
  by_cases hpw : modeOf G E.an quiet p = .write ∧ modeOf G E.an quiet q = .read
  · obtain ⟨hp, hq⟩ := hpw
    rw [hp, hq] at i3
    simp only at i3
    rw [hp, hq] at hv
    rw [hp] at hu
    simp only [reduceCtorEq, if_false, if_true] at hu hv
    obtain ⟨s2, hs2⟩ := read_sim hq (take_sim i3 hu).symm hv
    have k1 := aop_mk (ρ := ρ) (σ := σ) (o := q) (s := s2) (by rw [hq]; simpa using hs2) hva
    rw [hq] at k1
    simp only [reduceCtorEq, if_false] at k1
    refine ⟨_, _, k1, ?_⟩
    have k2 := aop_mk (ρ := apply v ρ) (σ := σ) (o := p) (s := s) (by rw [m2, hp]; simpa using hu) hua
    rw [hp] at k2
    simp only [if_true] at k2
    rw [k2, hcomm, hq, hp]
    simp
  have hσ : (if modeOf G E.an quiet q = .no then [] else if modeOf G E.an quiet p = .write then s else σ) = (if modeOf G E.an quiet q = .no then [] else σ) := by
    cases hp : modeOf G E.an quiet p <;> cases hq : modeOf G E.an quiet q <;> simp_all
  rw [hσ] at hv
  refine ⟨apply v ρ, if modeOf G E.an quiet q = .write then s' else σ, aop_mk hv hva, ?_⟩
  have hσ' : (if modeOf G E.an quiet p = .no then [] else if modeOf G E.an quiet q = .write then s' else σ) = (if modeOf G E.an quiet p = .no then [] else σ) := by
    cases hp : modeOf G E.an quiet p <;> cases hq : modeOf G E.an quiet q <;> simp_all
  have := aop_mk (ρ := apply v ρ) (σ := if modeOf G E.an quiet q = .write then s' else σ) (by rw [m2, hσ']; exact hu) hua
  rw [this, hcomm]
  congr 2
  cases hp : modeOf G E.an quiet p <;> cases hq : modeOf G E.an quiet q <;> simp_all

end Go.AI

/- The abstract machine: what is asked of calls, rounds and loops; one operation in the kit's calculus. -/
namespace Go.AI
set_option linter.unusedVariables false
set_option linter.unusedSimpArgs false
open Go

variable {G : Prg} {an : Ann} {E : EE} {B0 : Nat → Prop} {st : St} {ρ ρm ρ' : Env} {σ σ' : Sig} {ups : List (Nat × Slot)} {a : Act} {o : Oper} {tmps : Array Value} {O : Task → Option Res} {ops : Array Oper} {quiet : Bool}

/-- What is asked of the program's tables. -/
structure PrgOK (G : Prg) : Prop where
  name : ∀ g an fn, G.ann g = some an → G.P.funcs[g]? = some fn → fn.name ≠ "runtime.NumGoroutine"
  reg : ∀ g an fn c, G.ann g = some an → G.P.funcs[g]? = some fn → fn.body = some c → regionsOK G an c = true
  size : ∀ g an fn, G.ann g = some an → G.P.funcs[g]? = some fn → fn.ntmps = an.ntmps
  mixed : G.P.follows .mixedOrders = true
  glob : ∀ g a, G.gl g = some a → a.flat = true

/-- What is no callee's own. -/
def Fz (st : St) (b : Nat) : Prop := b < st.w.heap.size ∧ ¬ st.S b

def fen (r : Option Nat) : Fence := { Fence.wide with round := r }

def CPost (G : Prg) (st : St) (v : AV) (σ' : Sig) : Ending → World → Prop
  | .returned c, w' => ∃ st' : St, st'.w = w' ∧ SR G st'.w st'.ext st'.ι st'.S st'.SL σ' ∧ Rep st'.w st'.ext st'.ι v c ∧ Step (Fz st) st st' ∧ ∀ b, st'.S b → ¬ Fz st b
  | _, _ => False

/-- The marks of the loops over functions that a frame has entered. -/
def Marks (N : Nat) (B : Nat → Prop) (st : St) (ds : List Deferred) : Prop :=
  ∃ ms : List Nat, ds = ms.map (fun b => { target := .collected b, args := #[] }) ∧ ms.Nodup ∧ ∀ b ∈ ms, N ≤ b ∧ B b ∧ st.w.heap[b]? = some (.deferred (some []))

def XExit.to : XExit → Exit
  | .normal => .normal
  | .exit id => .exit id
  | .ret => .ret

def CodePost (G : Prg) (E : EE) (N : Nat) (B : Nat → Prop) (st : St) (e : XExit) (ρ' : Env) (σ' : Sig) : Exit → Act → World → Prop := fun ex a' w' =>
  ex = e.to ∧ ∃ (B' : Nat → Prop) (st' : St), st'.w = w' ∧ (∀ b, B b → B' b) ∧ OK G E.an B' st' ρ' σ' a'.tmps ∧ Step B st st' ∧ Marks N B' st' a'.defers

/-- The fence's round is that of the frame. -/
def RoundOK (E : EE) (r : Option Nat) (st : St) : Prop := match E.round with | none => r = none | some l => ∃ b, r = some b ∧ st.ι[l]? = some b

theorem RoundOK.step {E : EE} {r : Option Nat} {B : Nat → Prop} {st st' : St} (h : RoundOK E r st) (hst : Step B st st') : RoundOK E r st' := by
  unfold RoundOK at *
  cases hr : E.round with
  | none => rw [hr] at h; exact h
  | some l =>
    rw [hr] at h
    obtain ⟨b, h1, h2⟩ := h
    exact ⟨b, h1, pre_get hst.grow.pre h2⟩

def CodeOK (G : Prg) (E : EE) (c : Code) (ρ : Env) (σ : Sig) (e : XExit) (ρ' : Env) (σ' : Sig) : Prop :=
  regionsOK G E.an c = true → G.ann E.fn = some E.an → ∀ (st : St) (a : Act) (N : Nat) (B : Nat → Prop) (n : Nat) (r : Option Nat), RoundOK E r st → N ≤ st.w.heap.size → OK G E.an B st ρ σ a.tmps → Marks N B st a.defers → c.wpIn (fen r) n G.P (CodePost G E N B st e ρ' σ') a st.w

/-- At most so many rounds of a loop. -/
def Wn (F : Fence) (n : Nat) (P : Program) (b : Code) (Q : Exit → Act → World → Prop) : Nat → Act → World → Prop
  | 0, _, _ => False
  | m + 1, a, w => b.wpIn F n P (Exit.then (Wn F n P b Q m) Q) a w

def LoopW (G : Prg) (E : EE) (b : Code) (k : Nat) (ρ : Env) (σ : Sig) (e : XExit) (ρ' : Env) (σ' : Sig) : Prop :=
  regionsOK G E.an (.loop b) = true → G.ann E.fn = some E.an → ∀ (st : St) (a : Act) (N : Nat) (B : Nat → Prop) (n : Nat) (r : Option Nat), RoundOK E r st → N ≤ st.w.heap.size → OK G E.an B st ρ σ a.tmps → Marks N B st a.defers → Wn (fen r) n G.P b (CodePost G E N B st e ρ' σ') k a st.w

def Body (P : Program) (g : FuncId) : Prop := ∃ fn c, P.funcs[g]? = some fn ∧ fn.body = some c ∧ fn.name ≠ "runtime.NumGoroutine"

structure OrSound (G : Prg) (k : Nat) (O : Task → Option Res) : Prop where
  call : ∀ g args σ v σ', O (.call g args σ) = some (.ret v σ') → Body G.P g ∧ ∀ (st : St) (vs : Array Value) (n : Nat), SR G st.w st.ext st.ι st.S st.SL σ → Reps st.w st.ext st.ι args vs.toList →
    CallsIn Fence.wide n G.P g vs st.w (CPost G st v σ')
  yield : ∀ l args σ v σ', O (.yield l args σ) = some (.ret v σ') → ∀ (st : St) (vs : Array Value) (n b : Nat), SR G st.w st.ext st.ι st.S st.SL σ → st.ι[l]? = some b → Reps st.w st.ext st.ι args vs.toList →
    ∃ r, st.w.heap[b]? = some (.loop r) ∧ vs.size = r.params.size ∧
      RoundIn Fence.wide n G.P b r.fn ((r.params.zip vs).foldl (fun tmps (t, a) => tmps.setIfInBounds t a) r.tmps) r.assign r.body st.w (CPost G st v σ')
  loop : ∀ E b ρ σ e ρ' σ', O (.loop E (.loop b) ρ σ) = some (.code e ρ' σ') → LoopW G E b k ρ σ e ρ' σ'

/-! ### Whom an operation calls -/

theorem callFunc_run {P : Program} {g : FuncId} (hb : Body P g) (args : Array Value) (w : World) : (callFunc g args).run P w = .ok (.enter g args) w := by
  obtain ⟨fn, c, h1, h2, h3⟩ := hb
  have h3' : (fn.name == "runtime.NumGoroutine") = false := by simpa using h3
  simp [callFunc, Sem.run_bind, program, Sem.run, h1, h2, h3, Result.andThen]

theorem zip_rep (h : OK G an B0 st ρ σ a.tmps) (hs : Sub ρm ρ) : ∀ (xs : List Operand) (ts : List TypeId) (vs : List AV), xs.length = ts.length →
    (xs.zip ts).mapM (fun (x : Operand × TypeId) => opv G ρm x.2 x.1) = some vs → Reps st.w st.ext st.ι vs (xs.map a.eval) := by
  intro xs
  induction xs with
  | nil => intro ts vs _ h; simp at h; subst h; exact .nil
  | cons x xs ih =>
    intro ts vs hl hm
    cases ts with
    | nil => simp at hl
    | cons t ts =>
      simp only [List.zip_cons_cons, List.mapM_cons, Option.bind_eq_bind, Option.bind_eq_some_iff, Option.pure_def] at hm
      obtain ⟨v, h1, vs', h2, h3⟩ := hm
      simp at h3; subst h3
      exact .cons _ _ _ _ (opv_rep h rfl hs h1) (ih ts vs' (by simpa using hl) h2)

theorem method_run {P : Program} {t : TypeId} {name : String} {g : FuncId} (hm : methodOf P t name = some g) (v : Value) (w : World) (k : Nat) : (method (k + 1) t v name).run P w = .ok (g, v) w := by
  unfold methodOf at hm
  split at hm
  · rename_i m hfind
    rw [Option.bind_eq_some_iff] at hfind
    obtain ⟨i, hi, hf⟩ := hfind
    split at hm
    · rename_i hpath
      have hpl : m.path.toList = [] := by simpa using hpath
      have hpe : m.path.isEmpty = true := by simpa [Array.isEmpty] using hpath
      have hti : (typeInfo t).run P w = .ok i w := by simp [typeInfo, Sem.run_bind, program, Sem.run, hi, Result.andThen]
      split at hm
      · rename_i f el hfn hu
        simp at hm; subst hm
        simp only [method, Sem.run_bind, hti, Result.andThen_ok, hf, hpl, follow, Sem.run_pure, hfn, receiverAt, run_underlying hu, Place.get]
      · rename_i f fs hfn hu
        simp at hm; subst hm
        simp only [method, Sem.run_bind, hti, Result.andThen_ok, hf, hpl, follow, Sem.run_pure, hfn, receiverAt, run_underlying hu, Place.get]
      · simp at hm
    · simp at hm
  · simp at hm

theorem call_run {args : List AV} {g : FuncId} (hc : callOf G ρm o = some (.inl g, args)) (hb : Body G.P g) (h : OK G an B0 st ρ σ a.tmps) (hs : Sub ρm ρ) :
    (∃ c, o.op = .call c) ∧ ∃ vs : Array Value, Reps st.w st.ext st.ι args vs.toList ∧ (execOp a.eval o).run G.P st.w = .ok (.enter g vs) st.w := by
  unfold callOf at hc
  split at hc
  · rename_i c ho
    refine ⟨⟨c, ho⟩, ?_⟩
    simp only [Option.bind_eq_bind, Option.bind_eq_some_iff] at hc
    obtain ⟨as, has, hc⟩ := hc
    split at hc
    · simp at hc
    · rename_i hsz
      have hargs := zip_rep h hs c.args.toList c.argTypes.toList as (by simpa using hsz) has
      split at hc
      · rename_i f hcal
        rw [Option.bind_eq_some_iff] at hc
        obtain ⟨fv, hfv, hc⟩ := hc
        have hrep := opv_rep h rfl hs hfv
        split at hc
        · rename_i g' first cap
          simp at hc
          obtain ⟨rfl, rfl⟩ := hc
          generalize hev : a.eval f = ev at hrep
          cases hrep with
          | func _ _ _ fs cs h1 h2 =>
            refine ⟨fs ++ c.args.map a.eval ++ cs, ?_, ?_⟩
            · have := (h1.append hargs).append h2
              simpa using this
            · simp only [execOp, ho, resolve, hcal, Sem.run_bind, hev, Deferred.ofValue, Sem.run_pure, Result.andThen_ok, invoke]
              exact callFunc_run hb _ _
        · simp at hc
        · simp at hc
      · rename_i r name hcal
        rw [Option.bind_eq_some_iff] at hc
        obtain ⟨rv, hrv, hc⟩ := hc
        have hrep := opv_rep h rfl hs hrv
        split at hc
        · rename_i t v
          rw [Option.bind_eq_some_iff] at hc
          obtain ⟨g', hg', hc⟩ := hc
          simp at hc
          obtain ⟨rfl, rfl⟩ := hc
          generalize hev : a.eval r = ev at hrep
          cases hrep with
          | iface _ _ v' h1 =>
            refine ⟨#[v'] ++ c.args.map a.eval, ?_, ?_⟩
            · simpa using Reps.cons _ _ _ _ h1 hargs
            · simp only [execOp, ho, resolve, hcal, Sem.run_bind, hev, Sem.run_pure, Result.andThen_ok, invoke]
              have e1 : (#[Value.iface t v'] ++ Array.map a.eval c.args)[0]? = some (.iface t v') := by rw [Array.getElem?_append_left Nat.zero_lt_one]; rfl
              have e2 : (#[Value.iface t v'] ++ Array.map a.eval c.args).extract 1 (#[Value.iface t v'] ++ Array.map a.eval c.args).size = Array.map a.eval c.args := by
                apply Array.ext'
                simp [List.take_of_length_le]
              simp only [e1, e2, callMethod, Sem.run_bind]
              have e3 : (program).run G.P st.w = .ok G.P st.w := rfl
              simp only [e3, Result.andThen_ok]
              obtain ⟨k, hk⟩ : ∃ k, G.P.types.size + Made.depth = k + 1 := ⟨G.P.types.size + 99, rfl⟩
              rw [hk, method_run hg' v' st.w k]
              simp only [Result.andThen_ok]
              exact callFunc_run hb _ _
        · simp at hc
      · simp at hc
  · simp at hc

theorem yield_run {args : List AV} {l : Nat} (hc : callOf G ρm o = some (.inr l, args)) (h : OK G an B0 st ρ σ a.tmps) (hs : Sub ρm ρ) :
    (∃ c, o.op = .call c) ∧ ∃ (b : Nat) (vs : Array Value), st.ι[l]? = some b ∧ Reps st.w st.ext st.ι args vs.toList ∧ ∀ r, st.w.heap[b]? = some (.loop r) → vs.size = r.params.size →
      (execOp a.eval o).run G.P st.w = .ok (.round b r.fn ((r.params.zip vs).foldl (fun tmps (t, a) => tmps.setIfInBounds t a) r.tmps) r.assign r.body) st.w := by
  unfold callOf at hc
  split at hc
  · rename_i c ho
    refine ⟨⟨c, ho⟩, ?_⟩
    simp only [Option.bind_eq_bind, Option.bind_eq_some_iff] at hc
    obtain ⟨as, has, hc⟩ := hc
    split at hc
    · simp at hc
    · rename_i hsz
      have hargs := zip_rep h hs c.args.toList c.argTypes.toList as (by simpa using hsz) has
      split at hc
      · rename_i f hcal
        rw [Option.bind_eq_some_iff] at hc
        obtain ⟨fv, hfv, hc⟩ := hc
        have hrep := opv_rep h rfl hs hfv
        split at hc
        · simp at hc
        · rename_i l'
          simp at hc
          obtain ⟨rfl, rfl⟩ := hc
          generalize hev : a.eval f = ev at hrep
          cases hrep with
          | yield _ b hb =>
            refine ⟨b, c.args.map a.eval, hb, by simpa using hargs, fun r hr hz => ?_⟩
            simp only [execOp, ho, resolve, hcal, Sem.run_bind, hev, Deferred.ofValue, Sem.run_pure, Result.andThen_ok, invoke]
            have e : (#[] ++ Array.map a.eval c.args : Array Value) = Array.map a.eval c.args := by simp
            rw [e]
            exact run_yield hr hz
        · simp at hc
      · rename_i r name hcal
        rw [Option.bind_eq_some_iff] at hc
        obtain ⟨rv, hrv, hc⟩ := hc
        split at hc
        · rw [Option.bind_eq_some_iff] at hc
          obtain ⟨g', hg', hc⟩ := hc
          simp at hc
        · simp at hc
      · simp at hc
  · simp at hc

/-! ### A frame behind a call -/

theorem OK.called {st' : St} (h : OK G an B0 st ρ σ tmps) (hsr : SR G st'.w st'.ext st'.ι st'.S st'.SL σ') (hst : Step (Fz st) st st') (hS : ∀ b, st'.S b → ¬ Fz st b) :
    OK G an B0 { st' with L := st.L } ρ σ' tmps ∧ Step B0 st { st' with L := st.L } := by
  have hB : ∀ b, B0 b → Fz st b := fun b hb => ⟨h.base b hb, fun hs => h.out b hs hb⟩
  have hp : ∀ p b, Has st.L ρ p b → Fz st b := fun p b hh => ⟨(h.priv p b hh).2.1, (h.priv p b hh).2.2⟩
  refine ⟨⟨h.size, fun t => ?_, h.fits, h.lptr, fun p b hh => ⟨(h.priv p b hh).1, Nat.lt_of_lt_of_le (h.priv p b hh).2.1 hst.size, fun hs => hS b hs (hp p b hh)⟩, h.inj, fun b hb => Nat.lt_of_lt_of_le (h.base b hb) hst.size,
    fun b hs hb => hS b hs (hB b hb), hsr, h.larr⟩, ⟨hst.grow, hst.size, fun b hb => hst.blk b (hB b hb), hst.os, hst.tape, hst.output⟩⟩
  exact (h.slot t).keep hst.grow (fun hl => hst.blk _ (hp (.box t) _ ⟨hl, rfl⟩)) (fun i hi b hb => hst.blk _ (hp (.own t i) b ⟨hi, hb⟩))

/-- Nothing is shared. -/
theorem SR.empty {w : World} {ext : Nat → Nat} {ι : List Nat} {S : Nat → Prop} {SL : Nat → Nat → Option Nat} (hP : PrgOK G) (h : SR G w ext ι S SL σ) : SR G w ext [] (fun _ => False) SL [] where
  len := rfl
  nodup := List.nodup_nil
  obj := fun id o b ho => by simp at ho
  inS := fun b hb => by cases hb
  ownS := fun id o i b ho => by simp at ho
  inj := fun id o i id' o' i' b ho => by simp at ho
  small := fun b hb => hb.elim
  fresh := h.fresh
  globals := fun g a ha => (h.globals g a ha).flatι _ (hP.glob g a ha)

/-- A value is put. -/
theorem OK.puts (h : OK G an B0 st ρ σ a.tmps) {d : Option Tmp} {v : AV} {c : Value} (hf : Fit an (puts d (.val v []))) (hr : Rep st.w st.ext st.ι v c) :
    ∃ L, OK G an B0 { st with L := L } (apply (AI.puts d (.val v [])) ρ) σ (a.put d c).tmps := by
  cases d with
  | none => exact ⟨st.L, h⟩
  | some d =>
    obtain ⟨h1, h2⟩ := hf (d, .val v []) (by simp [AI.puts])
    exact h.putPlain h1 (fit_val h2) hr

theorem put_defers (a : Act) (d : Option Tmp) (v : Value) : (a.put d v).defers = a.defers := by cases d <;> rfl

theorem want_wanted (h : OK G an B0 st ρ σ a.tmps) (hs : Sub ρm ρ) {b : Bool} (hw : want ρm ops o = some b) : Region.wanted o (yielded ops a.tmps) = b := by
  unfold want at hw
  unfold Region.wanted
  split at hw
  · rename_i hg; simp at hw; subst hw; rw [hg]
  · rename_i j w hg
    rw [hg]
    simp only
    split at hw
    · simp at hw
    · rename_i d hd
      have key : ∀ (v : AV) ow, ρm d = .val v ow → Rep st.w st.ext st.ι v (a.tmps.getD d undef) := by
        intro v ow hv
        have := h.slot d
        rw [hs.val hv (by simp)] at this
        exact this.1
      split at hw
      · rename_i b' ow hρ
        have := rep_bool_inv (key _ _ hρ)
        simp at hw; subst hw
        have hy : yielded ops a.tmps j = some b' := by
          unfold yielded
          rw [hd]
          simp only [Option.bind_some]
          have hlt : d < a.tmps.size := by
            rcases Nat.lt_or_ge d a.tmps.size with h' | h'
            · exact h'
            · rw [Array.getD_eq_getD_getElem?, Array.getElem?_eq_none h'] at this
              simp [undef] at this
          rw [Array.getD_eq_getD_getElem?, Array.getElem?_eq_getElem hlt] at this
          rw [Array.getElem?_eq_getElem hlt]
          simp at this
          rw [this]
        rw [hy]
        cases b' <;> cases w <;> rfl
      · rename_i ow hρ
        have hr := key _ _ hρ
        simp at hw; subst hw
        generalize hg : a.tmps.getD d undef = c at hr
        cases hr with
        | tuple _ vs hvs =>
        have hy : yielded ops a.tmps j = none := by
          unfold yielded
          rw [hd]
          simp only [Option.bind_some]
          rw [Array.getD_eq_getD_getElem?] at hg
          cases ht : a.tmps[d]? with
          | none => rfl
          | some x => rw [ht] at hg; simp at hg; rw [hg]
        rw [hy]; rfl
      · simp at hw

theorem op_sound (hP : PrgOK G) {k : Nat} (hO : OrSound G k O) (r : Option Nat) (n : Nat) {i : Nat} (hi : ops[i]? = some o) (h : OK G E.an B0 st ρ σ a.tmps) (haop : aop G E O ops quiet o ρ σ = some (ρ', σ'))
    {K : Act → World → Prop} {Q : Exit → Act → World → Prop} (hK : ∀ a' st', OK G E.an B0 st' ρ' σ' a'.tmps → Step B0 st st' → a'.defers = a.defers → K a' st'.w) :
    wpOpIn (fen r) n G.P ops Q i K a st.w := by
  obtain ⟨ups, s, hstep, hfit, rfl, rfl⟩ := aop_spec haop
  have hs := mask_sub (rdOf E.an ops o) ρ
  have hm : ∀ t ∈ rdOf E.an ops o, mask (rdOf E.an ops o) ρ t = ρ t := fun t ht => by simp [mask, ht]
  have hf : Fit E.an ups := fun u hu => (hfit u hu).2
  have hnd : ∀ (c : Call), o.op = .call c → ∀ c', o.op ≠ .defer c' := fun c hc c' hc' => by rw [hc] at hc'; cases hc'
  unfold wpOpIn
  simp only [hi]
  unfold stepOp at hstep
  split at hstep
  · simp at hstep
  · rename_i hw
    rw [want_wanted h hs hw]
    simp only [Bool.false_eq_true, if_false]
    refine ⟨fun _ _ => trivial, ?_⟩
    simp only [Option.some.injEq, Prod.mk.injEq] at hstep
    obtain ⟨rfl, rfl⟩ := hstep
    have hσ : (if modeOf G E.an quiet o = SMode.write then (if modeOf G E.an quiet o = SMode.no then [] else σ) else σ) = σ := by
      cases modeOf G E.an quiet o <;> simp
    rw [hσ] at hK
    obtain ⟨L, hL⟩ := h.puts (c := undef) hf (.tuple _ _ .nil)
    exact hK _ { st with L := L } hL (okL L) (put_defers _ _ _)
  · rename_i hw
    rw [want_wanted h hs hw]
    simp only [if_true]
    refine ⟨fun _ _ => trivial, ?_⟩
    split at hstep
    · rename_i hcall
      have hmode : modeOf G E.an quiet o = if quiet then .no else .write := by
        unfold isCall at hcall
        unfold modeOf
        cases ho : o.op <;> simp [ho] at hcall ⊢
        rename_i c
        obtain ⟨callee, args, tys⟩ := c
        cases callee <;> simp at hcall ⊢
      split at hstep
      · simp at hstep
      · rename_i g args hcallof
        split at hstep
        · -- no shared name is handed over
          rename_i v hres
          simp only [Option.some.injEq, Prod.mk.injEq] at hstep
          obtain ⟨rfl, rfl⟩ := hstep
          have hσ : (if modeOf G E.an quiet o = .write then (if modeOf G E.an quiet o = .no then [] else σ) else σ) = σ := by
            cases modeOf G E.an quiet o <;> simp
          rw [hσ] at hK
          split at hres
          · rename_i hflat
            have hOc : O (.call g args []) = some (.ret v []) := by
              unfold retOf at hres
              split at hres
              · rename_i e; simp at hres; obtain ⟨rfl, rfl⟩ := hres; exact e
              · simp at hres
            obtain ⟨hbody, hcalls⟩ := hO.call _ _ _ _ _ hOc
            obtain ⟨⟨c, hoc⟩, vs, hreps, hrun⟩ := call_run hcallof hbody h hs
            rw [Oper.semAt_eq _ _ _ (hnd c hoc), hrun, Oper.uponIn_enter]
            refine ⟨fun hd => by simp [fen, Fence.wide] at hd, ?_⟩
            refine CallsIn.mono (F := fen r) (hcalls { st with ι := [], S := fun _ => False } vs (n - 1) (h.sr.empty hP) (hreps.flatι [] hflat)) fun e w' he => ?_
            cases e with
            | returned c' =>
              obtain ⟨st', rfl, q1, q2, q3, q4⟩ := he
              have hfz : ∀ b, b < st.w.heap.size → Fz { st with ι := [], S := fun _ => False } b := fun b hb => ⟨hb, fun h => h⟩
              obtain ⟨k1, k2⟩ := h.newer (w' := st'.w) (ext' := st'.ext) ⟨q3.size, fun b hb => (q3.blk b (hfz b hb)).1, q3.os, q3.tape, q3.output⟩ (fun b hb => (q3.blk b (hfz b hb)).2) q1.fresh
              have hι : st'.ι = [] := List.eq_nil_of_length_eq_zero q1.len
              rw [hι] at q2
              obtain ⟨L, hL⟩ := OK.puts (a := a) k1 hf (q2.mono ⟨fun _ _ _ _ h => h, fun _ => Nat.le_refl _, List.nil_prefix⟩)
              exact hK _ { st with w := st'.w, ext := st'.ext, L := L } hL ⟨k2.grow, k2.size, k2.blk, k2.os, k2.tape, k2.output⟩ (put_defers _ _ _)
            | panicked _ => exact he.elim
            | outgrown => exact he.elim
          · simp at hres
        · split at hstep
          · simp at hstep
          · rename_i hq
            have hq : quiet = false := by simpa using hq
            have hw : modeOf G E.an quiet o = .write := by rw [hmode, hq]; rfl
            rw [if_neg (by rw [hw]; simp)] at hstep
            split at hstep
            · rename_i v σ1 hres
              simp only [Option.some.injEq, Prod.mk.injEq] at hstep
              obtain ⟨rfl, rfl⟩ := hstep
              rw [if_pos hw] at hK
              have hOc : O (.call g args σ) = some (.ret v σ1) := by
                unfold retOf at hres
                split at hres
                · rename_i e; simp at hres; obtain ⟨rfl, rfl⟩ := hres; exact e
                · simp at hres
              obtain ⟨hbody, hcalls⟩ := hO.call _ _ _ _ _ hOc
              obtain ⟨⟨c, hoc⟩, vs, hreps, hrun⟩ := call_run hcallof hbody h hs
              rw [Oper.semAt_eq _ _ _ (hnd c hoc), hrun, Oper.uponIn_enter]
              refine ⟨fun hd => by simp [fen, Fence.wide] at hd, ?_⟩
              refine CallsIn.mono (F := fen r) (hcalls st vs (n - 1) h.sr hreps) fun e w' he => ?_
              cases e with
              | returned c' =>
                obtain ⟨st', rfl, q1, q2, q3, q4⟩ := he
                obtain ⟨k1, k2⟩ := h.called q1 q3 q4
                obtain ⟨L, hL⟩ := OK.puts (a := a) k1 hf q2
                exact hK _ { st' with L := L } hL ⟨k2.grow, k2.size, k2.blk, k2.os, k2.tape, k2.output⟩ (put_defers _ _ _)
              | panicked _ => exact he.elim
              | outgrown => exact he.elim
            · simp at hstep
      · rename_i l args hcallof
        split at hstep
        · simp at hstep
        · rename_i hq
          have hw : modeOf G E.an quiet o = .write := by rw [hmode, if_neg hq]
          rw [if_neg (by rw [hw]; simp)] at hstep
          split at hstep
          · rename_i v σ1 hres
            simp only [Option.some.injEq, Prod.mk.injEq] at hstep
            obtain ⟨rfl, rfl⟩ := hstep
            have hOc : O (.yield l args σ) = some (.ret v σ1) := by
              unfold retOf at hres
              split at hres
              · rename_i e; simp at hres; obtain ⟨rfl, rfl⟩ := hres; exact e
              · simp at hres
            rw [if_pos hw] at hK
            obtain ⟨⟨c, hoc⟩, b, vs, hb, hreps, hrun⟩ := yield_run hcallof h hs
            obtain ⟨rr, hr1, hr2, hround⟩ := hO.yield _ _ _ _ _ hOc st vs (n - 1) b h.sr hb hreps
            rw [Oper.semAt_eq _ _ _ (hnd c hoc), hrun rr hr1 hr2, Oper.uponIn_round]
            refine ⟨fun hd => by simp [fen, Fence.wide] at hd, ?_⟩
            refine RoundIn.mono (F := fen r) hround fun e w' he => ?_
            cases e with
            | returned c' =>
              obtain ⟨st', rfl, q1, q2, q3, q4⟩ := he
              obtain ⟨k1, k2⟩ := h.called q1 q3 q4
              obtain ⟨L, hL⟩ := OK.puts (a := a) k1 hf q2
              exact hK _ { st' with L := L } hL ⟨k2.grow, k2.size, k2.blk, k2.os, k2.tape, k2.output⟩ (put_defers _ _ _)
            | panicked _ => exact he.elim
            | outgrown => exact he.elim
          · simp at hstep
    · rename_i hcall
      have hcall : isCall o = false := by simpa using hcall
      split at hstep
      · rename_i r' harr
        rw [Option.map_eq_some_iff] at hstep
        obtain ⟨u, rfl, hstep⟩ := hstep
        simp only [Prod.mk.injEq] at hstep
        obtain ⟨rfl, rfl⟩ := hstep
        have hσ : (if modeOf G E.an quiet o = SMode.write then (if modeOf G E.an quiet o = SMode.no then [] else σ) else σ) = σ := by
          cases modeOf G E.an quiet o <;> simp
        rw [hσ] at hK
        obtain ⟨v, st', hrun, hok, hst⟩ := sound_arr (ops := ops) h hs hm harr hf
        have hdef : ∀ c, o.op ≠ .defer c := by
          intro c hc'
          simp [arrOp, hc'] at harr
        rw [Oper.semAt_eq _ _ _ hdef]
        rcases hrun with hrun | ⟨hrun, rfl⟩
        · rw [hrun, Oper.uponIn_value]
          exact hK _ st' hok hst (put_defers _ _ _)
        · rw [hrun, Oper.uponIn_skip]
          exact hK _ st' hok hst (put_defers _ _ _)
      have hc := core_mode (quiet := quiet) hcall hstep
      obtain ⟨v, st', hrun, hok, hst⟩ := sound_core (ops := ops) hcall h hs hm hc hf
      have hdef : ∀ c, o.op ≠ .defer c := by
        intro c hc'
        simp [core, core1, hc'] at hc
      rw [Oper.semAt_eq _ _ _ hdef]
      rcases hrun with hrun | ⟨hrun, rfl⟩
      · rw [hrun, Oper.uponIn_value]
        exact hK _ st' hok hst (put_defers _ _ _)
      · rw [hrun, Oper.uponIn_skip]
        exact hK _ st' hok hst (put_defers _ _ _)

end Go.AI

/- The abstract machine: regions, in their order and in whatever order. -/
namespace Go.AI
set_option linter.unusedVariables false
set_option linter.unusedSimpArgs false
open Go

variable {G : Prg} {an : Ann} {E : EE} {B0 : Nat → Prop} {st st0 : St} {ρ ρm ρ' : Env} {σ σ' : Sig} {a : Act} {o : Oper} {tmps : Array Value} {O : Task → Option Res} {ops : Array Oper} {quiet : Bool}

def aopsI (G : Prg) (E : EE) (O : Task → Option Res) (ops : Array Oper) (quiet : Bool) : List Nat → Env → Sig → Option (Env × Sig)
  | [], ρ, σ => some (ρ, σ)
  | i :: r, ρ, σ => match ops[i]? with
    | none => aopsI G E O ops quiet r ρ σ
    | some o => match aop G E O ops quiet o ρ σ with
      | none => none
      | some (ρ', σ') => aopsI G E O ops quiet r ρ' σ'

theorem aops_range' : ∀ (m k : Nat) (ρ : Env) (σ : Sig), k + m = ops.size → aopsI G E O ops quiet (List.range' k m) ρ σ = aops G E O ops quiet (ops.toList.drop k) ρ σ := by
  intro m
  induction m with
  | zero =>
    intro k ρ σ h
    rw [List.drop_of_length_le (by simp; omega)]
    rfl
  | succ m ih =>
    intro k ρ σ h
    have hk : k < ops.toList.length := by simp; omega
    rw [List.range'_succ, List.drop_eq_getElem_cons hk]
    have ho : ops[k]? = some ops.toList[k] := by simp
    simp only [aopsI, ho, aops]
    cases aop G E O ops quiet ops.toList[k] ρ σ with
    | none => rfl
    | some x => exact ih (k + 1) x.1 x.2 (by omega)

theorem aops_range : aopsI G E O ops quiet (List.range ops.size) ρ σ = aops G E O ops quiet ops.toList ρ σ := by
  rw [List.range_eq_range']
  have := aops_range' (G := G) (E := E) (O := O) (ops := ops) (quiet := quiet) ops.size 0 ρ σ (by simp)
  simpa using this

theorem aopsI_cons {i : Nat} {R : List Nat} {x : Env × Sig} (h : aopsI G E O ops quiet (i :: R) ρ σ = some x) (ho : ops[i]? = some o) :
    ∃ ρ1 σ1, aop G E O ops quiet o ρ σ = some (ρ1, σ1) ∧ aopsI G E O ops quiet R ρ1 σ1 = some x := by
  simp only [aopsI, ho] at h
  split at h
  · simp at h
  · rename_i ρ1 σ1 h1
    exact ⟨ρ1, σ1, h1, h⟩

theorem aopsI_mk {i : Nat} {R : List Nat} {ρ1 : Env} {σ1 : Sig} (ho : ops[i]? = some o) (h : aop G E O ops quiet o ρ σ = some (ρ1, σ1)) : aopsI G E O ops quiet (i :: R) ρ σ = aopsI G E O ops quiet R ρ1 σ1 := by
  simp only [aopsI, ho, h]

/-- In the order of the list. -/
theorem ops_sound (hP : PrgOK G) {k : Nat} (hO : OrSound G k O) (r : Option Nat) (n : Nat) {Q : Exit → Act → World → Prop} {ds : List Deferred} :
    ∀ (R : List Nat) (ρ : Env) (σ : Sig) (st : St) (a : Act), aopsI G E O ops quiet R ρ σ = some (ρ', σ') → OK G E.an B0 st ρ σ a.tmps → Step B0 st0 st → a.defers = ds →
      (∀ a' st', OK G E.an B0 st' ρ' σ' a'.tmps → Step B0 st0 st' → a'.defers = ds → Q .normal a' st'.w) → wpOpsIn (fen r) n G.P ops Q R a st.w := by
  intro R
  induction R with
  | nil =>
    intro ρ σ st a h hok hst hd hQ
    simp only [aopsI, Option.some.injEq, Prod.mk.injEq] at h
    obtain ⟨rfl, rfl⟩ := h
    exact hQ a st hok hst hd
  | cons i R ih =>
    intro ρ σ st a h hok hst hd hQ
    rw [wpOpsIn_cons]
    cases ho : ops[i]? with
    | none =>
      simp only [aopsI, ho] at h
      unfold wpOpIn
      simp only [ho]
      exact ih ρ σ st a h hok hst hd hQ
    | some o =>
      obtain ⟨ρ1, σ1, h1, h2⟩ := aopsI_cons h ho
      exact op_sound hP hO r n ho hok h1 fun a' st' hok' hst' hd' => ih ρ1 σ1 st' a' h2 hok' (hst.trans hst') (hd'.trans hd) hQ

/-! ### Whatever order -/

theorem move_front {i : Nat} : ∀ (R : List Nat) (ρ : Env) (σ : Sig) (x : Env × Sig), R.Pairwise (· < ·) → i ∈ R →
    (∀ p ∈ R, p < i → ∀ op oi, ops[p]? = some op → ops[i]? = some oi → indep G E.an quiet ops op oi = true) → aopsI G E O ops quiet R ρ σ = some x → aopsI G E O ops quiet (i :: R.erase i) ρ σ = some x := by
  intro R
  induction R with
  | nil => intro _ _ _ _ hi; cases hi
  | cons p R ih =>
    intro ρ σ x hp hi hin h
    by_cases hpi : p = i
    · subst hpi; simpa using h
    · have hiR : i ∈ R := by
        rcases List.mem_cons.1 hi with h' | h'
        · exact absurd h'.symm hpi
        · exact h'
      obtain ⟨hlt, hpR⟩ := List.pairwise_cons.1 hp
      have hplt := hlt i hiR
      have he : (p :: R).erase i = p :: R.erase i := List.erase_cons_tail (by simpa using hpi)
      rw [he]
      have hin' : ∀ q ∈ R, q < i → ∀ op oi, ops[q]? = some op → ops[i]? = some oi → indep G E.an quiet ops op oi = true := fun q hq => hin q (List.mem_cons_of_mem _ hq)
      cases hop : ops[p]? with
      | none =>
        have e1 : ∀ R ρ σ, aopsI G E O ops quiet (p :: R) ρ σ = aopsI G E O ops quiet R ρ σ := fun R ρ σ => by simp only [aopsI, hop]
        rw [e1] at h
        have h3 := ih ρ σ x hpR hiR hin' h
        cases hoi : ops[i]? with
        | none =>
          simp only [aopsI, hoi, hop] at h3 ⊢
          exact h3
        | some oi =>
          obtain ⟨ρ1, σ1, k1, k2⟩ := aopsI_cons h3 hoi
          rw [aopsI_mk hoi k1, e1]; exact k2
      | some op =>
        obtain ⟨ρ1, σ1, h1, h2⟩ := aopsI_cons h hop
        have h3 := ih ρ1 σ1 x hpR hiR hin' h2
        cases hoi : ops[i]? with
        | none =>
          simp only [aopsI, hoi] at h3 ⊢
          simp only [hop, h1]
          exact h3
        | some oi =>
          obtain ⟨ρ2, σ2, h4, h5⟩ := aopsI_cons h3 hoi
          obtain ⟨ρ3, σ3, k1, k2⟩ := aop_swap (hin p (by simp) hplt op oi hop hoi) h1 h4
          rw [aopsI_mk hoi k1, aopsI_mk hop k2]
          exact h5

def Listed (listed : Array Bool) (j : Nat) : Prop := listed.getD j false = true

theorem bef_listed {listed : Array Bool} (hd : ∀ j, Listed listed j → ∀ o, ops[j]? = some o → ∀ e ∈ o.after.toList, Region.binds .any e = true → Listed listed e.on) {p : Nat} :
    ∀ (f j : Nat) (o : Oper), ops[j]? = some o → (∀ e ∈ o.after.toList, Region.binds .any e = true → Listed listed e.on) → bef ops f p j = true → Listed listed p := by
  intro f
  induction f with
  | zero => intro j o _ _ h; simp [bef] at h
  | succ f ih =>
    intro j o ho hl h
    simp only [bef, ho, List.any_eq_true, Bool.and_eq_true, Bool.or_eq_true, beq_iff_eq] at h
    obtain ⟨e, he, hb, h | h⟩ := h
    · rw [← h]; exact hl e he hb
    · have hle := hl e he hb
      cases hoe : ops[e.on]? with
      | none =>
        cases f with
        | zero => simp [bef] at h
        | succ f => simp [bef, hoe] at h
      | some oe => exact ih e.on oe hoe (fun e' he' hb' => hd e.on hle oe hoe e' he' hb') h

theorem any_sound (hP : PrgOK G) {k : Nat} (hO : OrSound G k O) (r : Option Nat) (n : Nat) {Q : Exit → Act → World → Prop} {ds : List Deferred} (hreg : regionOK G E.an quiet ops = true) :
    ∀ (fuel : Nat) (R : List Nat) (listed : Array Bool) (ρ : Env) (σ : Sig) (st : St) (a : Act), R.length = fuel → R.Pairwise (· < ·) → listed.size = ops.size → (∀ i, i ∈ R ↔ i < ops.size ∧ listed.getD i true = false) →
      (∀ j, Listed listed j → ∀ o, ops[j]? = some o → ∀ e ∈ o.after.toList, Region.binds .any e = true → Listed listed e.on) →
      aopsI G E O ops quiet R ρ σ = some (ρ', σ') → OK G E.an B0 st ρ σ a.tmps → Step B0 st0 st → a.defers = ds →
      (∀ a' st', OK G E.an B0 st' ρ' σ' a'.tmps → Step B0 st0 st' → a'.defers = ds → Q .normal a' st'.w) → wpAnyIn (fen r) n G.P .any ops Q fuel listed a st.w := by
  have hchk : ∀ j o, ops[j]? = some o → (∀ e ∈ o.after.toList, Region.binds .any e = true → e.on < j) ∧ ∀ i, i < j → ∀ p, ops[i]? = some p → bef ops 8 i j = true ∨ indep G E.an quiet ops p o = true := by
    intro j o ho
    have hj : j < ops.size := (Array.getElem?_eq_some_iff.1 ho).1
    unfold regionOK at hreg
    rw [List.all_eq_true] at hreg
    have := hreg j (List.mem_range.2 hj)
    simp only [ho, Bool.and_eq_true, List.all_eq_true, Bool.or_eq_true, Bool.not_eq_true', decide_eq_true_eq, List.mem_range] at this
    refine ⟨fun e he hb => ?_, fun i hi p hp => ?_⟩
    · rcases this.1 e he with h | h
      · rw [hb] at h; cases h
      · exact h
    · have := this.2 i hi
      rw [hp] at this
      simpa using this
  have hget : ∀ (listed : Array Bool) (j : Nat), listed.size = ops.size → j < ops.size → (listed.getD j true = false ∨ Listed listed j) := by
    intro listed j hs hj
    unfold Listed
    rw [Array.getD_eq_getD_getElem?, Array.getD_eq_getD_getElem?, Array.getElem?_eq_getElem (by omega)]
    simp
  intro fuel
  induction fuel with
  | zero =>
    intro R listed ρ σ st a hlen hp hs hR hd h hok hst hds hQ
    have hRn : R = [] := List.eq_nil_of_length_eq_zero hlen
    subst hRn
    refine ⟨?_, ?_⟩
    · cases hr : Region.ready .any ops listed with
      | nil => rfl
      | cons x xs =>
        have hx : x ∈ Region.ready .any ops listed := by rw [hr]; simp
        obtain ⟨k1, o, ho, _⟩ := mem_ready.1 hx
        have := (hR x).2 ⟨(Array.getElem?_eq_some_iff.1 ho).1, k1⟩
        cases this
    · simp only [aopsI, Option.some.injEq, Prod.mk.injEq] at h
      obtain ⟨rfl, rfl⟩ := h
      exact hQ a st hok hst hds
  | succ fuel ih =>
    intro R listed ρ σ st a hlen hp hs hR hd h hok hst hds hQ
    refine ⟨fun hnil => ?_, fun i hi => ?_⟩
    · exfalso
      cases R with
      | nil => simp at hlen
      | cons i R =>
        obtain ⟨k1, k2⟩ := (hR i).1 (by simp)
        have hoi : ops[i]? = some ops[i] := Array.getElem?_eq_getElem k1
        have : i ∈ Region.ready .any ops listed := by
          refine mem_ready.2 ⟨k2, ops[i], hoi, fun e he hb => ?_⟩
          have hlt := (hchk i _ hoi).1 e (by simpa using he) hb
          rcases hget listed e.on hs (by omega) with hq | hq
          · have := (hR e.on).2 ⟨by omega, hq⟩
            rcases List.mem_cons.1 this with h' | h'
            · omega
            · have := (List.pairwise_cons.1 hp).1 _ h'
              omega
          · exact hq
        rw [hnil] at this
        cases this
    · obtain ⟨k1, o, ho, k3⟩ := mem_ready.1 hi
      have hisz := (Array.getElem?_eq_some_iff.1 ho).1
      have hiR := (hR i).2 ⟨hisz, k1⟩
      have hal : ∀ e ∈ o.after.toList, Region.binds .any e = true → Listed listed e.on := fun e he hb => k3 e (by simpa using he) hb
      have hfront := move_front (i := i) R ρ σ _ hp hiR (fun p hpR hpi op oi hop hoi => by
        rw [ho] at hoi; cases hoi
        rcases (hchk i o ho).2 p hpi op hop with hb | hb
        · have hl := bef_listed hd 8 i o ho hal hb
          have := ((hR p).1 hpR).2
          exfalso
          unfold Listed at hl
          have hps := ((hR p).1 hpR).1
          rw [Array.getD_eq_getD_getElem?, Array.getElem?_eq_getElem (by omega)] at hl this
          simp at hl this
          rw [hl] at this; cases this
        · exact hb) h
      obtain ⟨ρ1, σ1, h1, h2⟩ := aopsI_cons hfront ho
      have hnd : R.Nodup := hp.imp fun h => Nat.ne_of_lt h
      refine op_sound hP hO r n ho hok h1 fun a' st' hok' hst' hd' => ?_
      refine ih (R.erase i) (listed.setIfInBounds i true) ρ1 σ1 st' a' (by rw [List.length_erase_of_mem hiR]; omega) (hp.sublist List.erase_sublist) (by simpa using hs) (fun j => ?_) (fun j hj oj hoj e he hb => ?_) h2 hok' (hst.trans hst') (hd'.trans hds) hQ
      · rw [hnd.mem_erase_iff, hR j]
        by_cases hji : j = i
        · subst hji
          simp [Array.getD_eq_getD_getElem?, Array.getElem?_setIfInBounds_self_of_lt (show j < listed.size by omega)]
        · simp only [Array.getD_eq_getD_getElem?, Array.getElem?_setIfInBounds_ne (Ne.symm hji)]
          simp [hji]
      · have hset : ∀ k, Listed listed k → Listed (listed.setIfInBounds i true) k := by
          intro k hk
          unfold Listed at *
          by_cases hki : k = i
          · subst hki
            simp [Array.getD_eq_getD_getElem?, Array.getElem?_setIfInBounds_self_of_lt (show k < listed.size by omega)]
          · rw [Array.getD_eq_getD_getElem?] at hk ⊢
            rw [Array.getElem?_setIfInBounds_ne (Ne.symm hki)]; exact hk
        by_cases hji : j = i
        · subst hji
          rw [ho] at hoj; cases hoj
          exact hset _ (hal e he hb)
        · refine hset _ (hd j ?_ oj hoj e he hb)
          unfold Listed at *
          rw [Array.getD_eq_getD_getElem?] at hj ⊢
          rw [Array.getElem?_setIfInBounds_ne (Ne.symm hji)] at hj; exact hj

/-! ### What a region leaves -/

theorem forget_get (vars : List Nat) (ρ : Env) (t : Nat) : forget vars ρ t = if t ∈ vars then clean (ρ t) else .none := by
  unfold forget
  induction vars with
  | nil => rfl
  | cons v vars ih =>
    simp only [List.map_cons, mkEnv]
    by_cases h : t = v
    · subst h; simp
    · rw [if_neg h, ih]; simp [h]

theorem OK.forget (h : OK G an B0 st ρ σ tmps) (vars : List Nat) : OK G an B0 st (AI.forget vars ρ) σ tmps := by
  have hget : ∀ t, AI.forget vars ρ t = .none ∨ AI.forget vars ρ t = ρ t := by
    intro t
    rw [forget_get]
    split
    · cases hρ : ρ t <;> simp [clean]
    · exact .inl rfl
  have hnl : ∀ t s off, AI.forget vars ρ t ≠ .lptr s off := by
    intro t s off
    rw [forget_get]
    split
    · cases hρ : ρ t <;> simp [clean]
    · simp
  have hnr : ∀ t s n, AI.forget vars ρ t ≠ .larr s n := by
    intro t s n
    rw [forget_get]
    split
    · cases hρ : ρ t <;> simp [clean]
    · simp
  have hhas : ∀ p b, Has st.L (AI.forget vars ρ) p b → Has st.L ρ p b := by
    intro p b hp
    cases p with
    | box t =>
      rcases hget t with e | e
      · simp [Has, e, Slot.isLoc] at hp
      · simpa [Has, e] using hp
    | own t i =>
      rcases hget t with e | e
      · simp [Has, e, Slot.ows] at hp
      · simpa [Has, e] using hp
  refine ⟨h.size, fun t => ?_, fun t => ?_, fun t s off ht => absurd ht (hnl t s off), fun p b hp => h.priv p b (hhas p b hp), fun p q b hp hq => h.inj p q b (hhas p b hp) (hhas q b hq), h.base, h.out, h.sr, fun t s n ht => absurd ht (hnr t s n)⟩
  · rcases hget t with e | e
    · rw [e]; trivial
    · rw [e]; exact h.slot t
  · rcases hget t with e | e
    · rw [e]; intro h'; exact absurd rfl h'
    · rw [e]; exact h.fits t

end Go.AI

/- The abstract machine: regions that append an element and fill it where it stands. -/
namespace Go.AI
set_option linter.unusedVariables false
set_option linter.unusedSimpArgs false
open Go

variable {G : Prg} {an : Ann} {E : EE} {B0 : Nat → Prop} {st st0 : St} {ρ ρm ρ' : Env} {σ σ' : Sig} {a : Act} {o : Oper} {tmps : Array Value} {O : Task → Option Res} {ops : Array Oper} {quiet : Bool}

theorem op_value {r : Option Nat} {n i : Nat} {v : Value} {w w' : World} {K : Act → World → Prop} {Q : Exit → Act → World → Prop} (ho : ops[i]? = some o) (hg : o.guard = none) (hd : ∀ c, o.op ≠ .defer c)
    (hr : (execOp a.eval o).run G.P w = .ok (.value v) w') (hK : K (a.put o.dst v) w') : wpOpIn (fen r) n G.P ops Q i K a w := by
  unfold wpOpIn
  simp only [ho]
  have hw : Region.wanted o (yielded ops a.tmps) = true := by simp [Region.wanted, hg]
  rw [hw]
  simp only [if_true]
  refine ⟨fun _ _ => trivial, ?_⟩
  rw [Oper.semAt_eq _ _ _ hd, hr, Oper.uponIn_value]
  exact hK

theorem op_skip {r : Option Nat} {n i : Nat} {w w' : World} {K : Act → World → Prop} {Q : Exit → Act → World → Prop} (ho : ops[i]? = some o) (hg : o.guard = none) (hd : ∀ c, o.op ≠ .defer c)
    (hr : (execOp a.eval o).run G.P w = .ok .skip w') (hK : K (a.put o.dst undef) w') : wpOpIn (fen r) n G.P ops Q i K a w := by
  unfold wpOpIn
  simp only [ho]
  have hw : Region.wanted o (yielded ops a.tmps) = true := by simp [Region.wanted, hg]
  rw [hw]
  simp only [if_true]
  refine ⟨fun _ _ => trivial, ?_⟩
  rw [Oper.semAt_eq _ _ _ hd, hr, Oper.uponIn_skip]
  exact hK

/-- A store's run, told out. -/
theorem store_run {t : TypeId} {p x : Operand} (ho : o.op = .store t p x) {b off : Nat} {vs : Array Value} {e : TypeId} {w : World} (he : a.eval p = .pointer (some ⟨b, off, none⟩)) (hh : w.heap[b]? = some (.cells vs e (0, 0)))
    (h1 : ∀ y ∈ (a.eval x).cells.toList, y.oneCell' = true) (h3 : (a.eval x).cells.toList.length = G.P.cellsOf t) (hi : (G.P.info? t).isSome = true) (hle : off + G.P.cellsOf t ≤ vs.size) :
    (execOp a.eval o).run G.P w = .ok .skip (w.setRow b (vs.toList.take off ++ (a.eval x).cells.toList ++ vs.toList.drop (off + (a.eval x).cells.toList.length)).toArray) := by
  have := run_storeCells_at G.P b off e (a.eval x).cells.toList 0 vs w hh (by rw [h3]; omega) h1
  have hsz := sizeOf_run (P := G.P) (t := t) w hi
  simp only [Nat.add_zero] at this
  have hne : (a.eval x).cells.size = G.P.cellsOf t := by simpa using h3
  simp [execOp, ho, he, Instr.storeAt, Instr.sureAddr, storeVar, hsz, hne]
  rw [this]; simp [hne]

theorem setRow_cells {w : World} {b : Nat} {cs vs : Array Value} {e : TypeId} (h : w.heap[b]? = some (.cells vs e (0, 0))) : (w.setRow b cs).heap[b]? = some (.cells cs e (0, 0)) := setRow_heap _ _ _ _ _ _ h

theorem eval_put_other {t : Nat} {d : Nat} {c : Value} (h : t ≠ d) : (a.put (some d) c).eval (.tmp t) = a.eval (.tmp t) := by
  simp only [Act.eval, Act.put]
  rw [Array.getD_eq_getD_getElem?, Array.getD_eq_getD_getElem?, Array.getElem?_setIfInBounds_ne (Ne.symm h)]

theorem eval_put_same {d : Nat} {c : Value} (h : d < a.tmps.size) : (a.put (some d) c).eval (.tmp d) = c := by
  simp only [Act.eval, Act.put]
  rw [Array.getD_eq_getD_getElem?, Array.getElem?_setIfInBounds_self_of_lt h]; rfl

theorem eval_put_apart {d q : Nat} {c : Value} {x : Operand} (h : apart2 d q x = true) : (a.put (some d) c).eval x = a.eval x ∧ (a.put (some q) c).eval x = a.eval x := by
  cases x with
  | tmp t =>
    simp only [apart2, Bool.and_eq_true, bne_iff_ne, ne_eq] at h
    exact ⟨eval_put_other h.1, eval_put_other h.2⟩
  | _ => exact ⟨rfl, rfl⟩

theorem setRow_setRow (w : World) (b : Nat) (x y : Array Value) : (w.setRow b x).setRow b y = w.setRow b y := by
  unfold World.setRow
  congr 1
  apply Array.ext_getElem?
  intro i
  simp only [Array.getElem?_modify]
  by_cases h : b = i
  · simp only [h, if_true]
    cases w.heap[i]? with
    | none => rfl
    | some o => cases o <;> rfl
  · simp only [h, if_false]

theorem setRow_comm (w : World) {b c : Nat} (h : b ≠ c) (x y : Array Value) : (w.setRow b x).setRow c y = (w.setRow c y).setRow b x := by
  unfold World.setRow
  congr 1
  apply Array.ext_getElem?
  intro i
  simp only [Array.getElem?_modify]
  by_cases hb : b = i
  · have hc : ¬ c = i := fun hc => h (hb.trans hc.symm)
    simp only [hb, hc, if_true, if_false]
  · by_cases hc : c = i
    · simp only [hb, hc, if_true, if_false]
    · simp only [hb, hc, if_false]

theorem Newer.setRow {w w' : World} (h : Newer w w') {k : Nat} (hk : w.heap.size ≤ k) (cs : Array Value) : Newer w (w'.setRow k cs) :=
  ⟨by simpa [World.setRow] using h.size, fun b hb => by rw [setRow_other w' k b cs (by omega)]; exact h.blk b hb, h.os, h.tape, h.output⟩

def PenEnd (G : Prg) (E : EE) (B0 : Nat → Prop) (st : St) (a : Act) (A : Oper) (σ : Sig) (ρ2 : Env) (d q n sz : Nat) (vc : List Value) : Prop :=
  ∃ (w1 : World) (b C : Nat) (cur : Array Value) (e0 : TypeId) (st2 : St), (execOp a.eval A).run G.P st.w = .ok (.value (.slice (some ⟨b, 0, none⟩) (n + 1) C)) w1 ∧ w1.heap[b]? = some (.cells cur e0 (0, 0)) ∧ n * sz + sz ≤ cur.size ∧
    st2.w = w1.setRow b (cur.toList.take (n * sz) ++ vc ++ cur.toList.drop (n * sz + sz)).toArray ∧ Has st2.L ρ2 (.own d 0) b ∧
    OK G E.an B0 st2 ρ2 σ ((a.tmps.setIfInBounds d (.slice (some ⟨b, 0, none⟩) (n + 1) C)).setIfInBounds q (.pointer (some ⟨b, n * sz, none⟩))) ∧ Step B0 st st2

/-- What the append, the element's address and its store come to together. -/
theorem pen_three {A I S B : Oper} {ups : List (Nat × Slot)} (h : OK G E.an B0 st ρ σ a.tmps) (hc : penUps G E A I S B ρ = some ups) :
    ∃ (tx ts : TypeId) (x y ii vs pb : Operand) (d q tb : Nat) (n : Nat), A.op = .call { callee := .builtin .append, args := #[x, y], argTypes := #[tx, tx] } ∧ I.op = .indexAddr tx (.tmp d) ii ∧ S.op = .store ts (.tmp q) vs ∧ B.op = .store tb pb (.tmp d) ∧
      A.dst = some d ∧ I.dst = some q ∧ S.dst = none ∧ B.dst = none ∧ A.guard = none ∧ I.guard = none ∧ S.guard = none ∧ B.guard = none ∧ d < E.an.ntmps ∧ q < E.an.ntmps ∧ d ≠ q ∧
      apart2 d q ii = true ∧ apart2 d q vs = true ∧ apart2 d q pb = true ∧ (∃ k, a.eval ii = .int k n) ∧
      (∀ y ∈ (a.eval vs).cells.toList, y.oneCell' = true) ∧ (a.eval vs).cells.toList.length = G.P.cellsOf ts ∧ (G.P.info? ts).isSome = true ∧
      (∃ e, G.P.underlying tx = some (.slice e) ∧ (G.P.info? e).isSome = true ∧ G.P.cellsOf e = G.P.cellsOf ts) ∧ (∃ es v, apply ups ρ d = .val (.slice (G.P.cellsOf ts) (es ++ [v])) [0]) ∧
      PenEnd G E B0 st a A σ (apply ups ρ) d q n (G.P.cellsOf ts) (a.eval vs).cells.toList := by
  unfold penUps at hc
  split at hc
  · rename_i args tys ti d1 ii ts q1 vs tb pb d2 hA hI hS hB
    split at hc
    · rename_i x y tx ty d q hargs htys hAd hId hSd hBd
      split at hc
      · rename_i e sz es sz' es' kk n v hu hx hy hi hv
        split at hc
        · rename_i hcond
          obtain ⟨⟨a1, a2, a3, a4, a5, a6, a7, a8⟩, ⟨b1, b2, b3, b4, b5, b6⟩, ⟨g1, g2, g3, g4⟩, ⟨c1, c2, c3, c4, c5, c6, c7, c8⟩, ⟨d1', d2', d3', d4'⟩, e1, e2⟩ := hcond
          subst a1; subst a2; subst a3; subst a5; have a6' := a6.symm; subst a6'; have c2' := c2.symm; subst c2'
          simp only [Option.some.injEq] at hc
          have hs : Sub ρ ρ := fun _ _ => rfl
          have hargs' : args = #[x, y] := by cases args; simp at hargs; rw [hargs]
          have htys' : tys = #[tx, tx] := by cases tys; simp at htys; rw [htys]
          subst hargs'; subst htys'
          have hii := rep_int_inv (opv_rep h rfl hs hi)
          obtain ⟨o1, o2⟩ := (opv_rep h rfl hs hv).one d3'
          have o3 : (a.eval vs).cells.toList.length = sz := by rw [← o2.length, d2']
          obtain ⟨pa, cap, ovs, he, hcap, hes, hr, h1c, hadr⟩ := rep_slice_inv (opv_rep h rfl hs hx)
          obtain ⟨pa', cap', vs', he', hcap', hes', hr', hone', hadr'⟩ := rep_slice_inv (opv_rep h rfl hs hy)
          obtain ⟨h1, g, hg1, hg2, hg3⟩ := own_of h hs hx c5
          have hvl := len_flat hes hr
          have hvl' := len_flat hes' hr'
          rw [c4, Nat.one_mul] at hvl'
          have hess : ∀ e ∈ es ++ [v], e.cells.length = sz := fun z hz => by
            rcases List.mem_append.1 hz with hz | hz
            · exact hes z hz
            · simp at hz; subst hz; exact d2'
          rw [Option.map_eq_some_iff] at c8
          obtain ⟨zc, hzc, hzl⟩ := c8
          obtain ⟨i, z, hinf, hz, hzt⟩ := zeroC_info hzc
          have hzs : z.cells.size = sz := by
            have := (tcells_rep (w := st.w) (ext := st.ext) (ι := st.ι) _ _ _ _ hzt).1.length
            rw [hzl] at this; simpa using this.symm
          have hisz : i.size = sz := by rw [c1]; simp [Program.cellsOf, hinf]
          have hib : i.bytes ≤ 1024 := by simpa [hinf] using c6
          have run : ∀ u w', (Builtin.append_ #[tx, tx] A.type #[a.eval x, a.eval y]).run G.P st.w = .ok u w' → (execOp a.eval A).run G.P st.w = .ok (.value u) w' := by
            intro u w' hr
            simp [execOp, hA, resolve, invoke, builtin, hr]
          have hne' : vs' ≠ [] := by intro hv0; rw [hv0] at hvl'; simp at hvl'; omega
          obtain ⟨b', off', rfl, hcell'⟩ := hadr'.resolve_left hne'
          have hnews : ∀ j u, vs'[j]? = some u → st.w.cell? ((⟨b', off', none⟩ : Addr).add j) = some u := fun j u hu => by rw [addr_add]; exact (hcell' j u hu).1
          have hl' : vs'.length = 1 * i.size := by rw [hisz, Nat.one_mul]; exact hvl'
          rw [c4] at he'
          -- the frame behind it, once the row stands
          have fin : ∀ (w1 : World) (b C : Nat) (cur : Array Value) (e0 : TypeId) (ext' : Nat → Nat), (Builtin.append_ #[tx, tx] A.type #[a.eval x, a.eval y]).run G.P st.w = .ok (.slice (some ⟨b, 0, none⟩) (es.length + 1) C) w1 →
              w1.heap[b]? = some (.cells cur e0 (0, 0)) → es.length * sz + sz ≤ cur.size → es.length + 1 ≤ C → C * sz ≤ cur.size → cur.toList.take (es.length * sz) = ovs → ext' b = (es.length + 1) * sz →
              Grow st.w st.ext st.ι (w1.setRow b (cur.toList.take (es.length * sz) ++ (a.eval vs).cells.toList ++ cur.toList.drop (es.length * sz + sz)).toArray) ext' st.ι →
              OK G E.an B0 { st with w := w1.setRow b (cur.toList.take (es.length * sz) ++ (a.eval vs).cells.toList ++ cur.toList.drop (es.length * sz + sz)).toArray, ext := ext' } (apply (clr ρ x) ρ) σ a.tmps →
              Step B0 st { st with w := w1.setRow b (cur.toList.take (es.length * sz) ++ (a.eval vs).cells.toList ++ cur.toList.drop (es.length * sz + sz)).toArray, ext := ext' } →
              (¬ B0 b ∧ b < w1.heap.size ∧ ¬ st.S b) → (∀ p, ¬ Has st.L (apply (clr ρ x) ρ) p b) →
              PenEnd G E B0 st a A σ (apply ups ρ) d2 q1 es.length sz (a.eval vs).cells.toList := by
            intro w1 b C cur e0 ext' hrun hheap hsz hC1 hC2 htake hext hgrow hok hst hb hnb
            obtain ⟨row, hrow⟩ : ∃ row, row = (cur.toList.take (es.length * sz) ++ (a.eval vs).cells.toList ++ cur.toList.drop (es.length * sz + sz)).toArray := ⟨_, rfl⟩
            rw [← hrow] at hgrow hok hst
            unfold PenEnd
            have hheap2 : (w1.setRow b row).heap[b]? = some (.cells row e0 (0, 0)) := setRow_cells hheap
            have hrowl : row.toList.take ((es.length + 1) * sz) = ovs ++ (a.eval vs).cells.toList := by
              rw [hrow]
              simp only
              rw [htake]
              have : (ovs ++ (a.eval vs).cells.toList).length = (es.length + 1) * sz := by rw [List.length_append, hvl, o3, Nat.add_mul, Nat.one_mul]
              rw [← this, List.take_append_of_le_length (Nat.le_refl _)]
              exact List.take_of_length_le (Nat.le_refl _)
            have hrowsz : row.size = cur.size := by
              rw [hrow]
              simp only [List.size_toArray, List.length_append, List.length_take, List.length_drop, Array.length_toList, o3]
              omega
            have hrep : Rep (w1.setRow b row) ext' st.ι (.slice sz (es ++ [v])) (.slice (some ⟨b, 0, none⟩) (es.length + 1) C) := by
              refine rep_slice_mk (us := ovs ++ (a.eval vs).cells.toList) (by simp) hC1 hess ?_ (fun y hy => (List.mem_append.1 hy).elim (h1c y) (o1 y)) hheap2 hrowl (Nat.le_of_eq hext.symm)
              rw [flatMap_append_cells]
              simp only [List.flatMap_cons, List.flatMap_nil, List.append_nil]
              exact (hr.mono hgrow).append (o2.mono hgrow)
            have hput := hok.put (d := d2) (v := .slice sz (es ++ [v])) (ow := [0]) (c := .slice (some ⟨b, 0, none⟩) (es.length + 1) C) a7 b1 (fun _ => some b) hrep
              (fun i hi aa xx ha hx' => by
                simp at hi; subst hi
                simp [AV.cells] at ha; subst ha
                simp [Value.cells] at hx'; subst hx'
                exact ⟨_, C, sz, _, row, e0, rfl, rfl, hext, hheap2, by rw [hrowsz]; exact hC2⟩)
              (fun i _ c hc => by cases hc; exact ⟨hb.1, by simpa using hb.2.1, hb.2.2⟩) (fun i _ c hc p _ => by cases hc; exact hnb p) (fun i hi j hj c _ _ => (List.mem_singleton.1 hi).trans (List.mem_singleton.1 hj).symm)
            have hput2 := hput.put (d := q1) (v := .any) (ow := []) (c := .pointer (some ⟨b, es.length * sz, none⟩)) a8 b2 (fun _ => none) (.any _) (fun _ hi => by cases hi) (fun _ hi => by cases hi) (fun _ hi => by cases hi) (fun _ hi => by cases hi)
            have hups : apply ups ρ = upd (upd (apply (clr ρ x) ρ) d2 (.val (.slice sz (es ++ [v])) [0])) q1 (.val .any []) := by rw [← hc, apply_append]; rfl
            refine ⟨w1, b, C, cur, e0, { st with w := w1.setRow b row, ext := ext', L := (st.L.setγ d2 fun _ => some b).setγ q1 fun _ => none }, run _ _ hrun, hheap, hsz, by rw [← hrow], ?_, by rw [hups]; exact hput2, hst.grow, hst.size, hst.blk, hst.os, hst.tape, hst.output⟩
            rw [hups]
            refine ⟨?_, ?_⟩
            · rw [upd_other _ _ _ a4, upd_same]; simp [Slot.ows]
            · simp [Lay.setγ, a4]
          have key : PenEnd G E B0 st a A σ (apply ups ρ) d2 q1 es.length sz (a.eval vs).cells.toList := by
            have hnb : (es.length + 1) * i.bytes ≤ 140737488355328 := Nat.le_trans (Nat.mul_le_mul e2 hib) (by decide)
            -- a new row
            have grown : cap < es.length + 1 → PenEnd G E B0 st a A σ (apply ups ρ) d2 q1 es.length sz (a.eval vs).cells.toList := fun hgr => by
              have hrun : ∃ C cs, (Builtin.append_ #[tx, tx] A.type #[a.eval x, a.eval y]).run G.P st.w = .ok (.slice (some ⟨st.w.heap.size, 0, none⟩) (es.length + 1) C) (st.w.drew.alloc (.cells cs e)) ∧
                  es.length + 1 ≤ C ∧ C * sz ≤ cs.size ∧ cs.toList.take ((es.length + 1) * sz) = ovs ++ vs' := by
                have hC := grownCap_ge st.w (es.length + 1) cap e
                have hsize : ∀ (front : List Value), front.length = (es.length + 1) * sz → (grownCap st.w (es.length + 1) cap e) * sz ≤ (front.toArray ++ Builtin.zeroCells z.cells (grownCap st.w (es.length + 1) cap e - (es.length + 1))).size := by
                  intro front hfr
                  simp only [Array.size_append, List.size_toArray, size_zeroCells, hzs, hfr, ← Nat.add_mul]
                  exact Nat.mul_le_mul_right _ (by omega)
                by_cases hn0 : ovs = []
                · have hes0 : es = [] := by
                    rw [hn0] at hvl
                    rcases Nat.eq_zero_or_pos es.length with h0 | h0
                    · exact List.eq_nil_of_length_eq_zero h0
                    · have : 0 < es.length * sz := Nat.mul_pos h0 c3
                      simp at hvl; omega
                  subst hes0; subst hn0
                  simp only [List.length_nil, Nat.zero_add] at *
                  cases pa with
                  | none =>
                    have hcap0 : cap = 0 := by
                      cases g with
                      | none => exact hg1 none 0 cap he
                      | some b => obtain ⟨n, c2, s2, e2, v2, t2, _, k2, _⟩ := hg1; rw [he] at k2; cases k2
                    subst hcap0
                    refine ⟨_, _, by rw [he, he']; exact run_append_nil st.w tx A.type e i z hu hinf hz ⟨b', off', none⟩ 1 cap' vs' hl' hnews (by omega) (by omega) (by omega), hC, ?_, ?_⟩
                    · exact hsize vs' (by rw [hvl', Nat.one_mul])
                    · rw [Nat.one_mul, ← hvl']; simp
                  | some pa =>
                    have key := run_append_grow (P := G.P) st.w tx A.type e i z hu hinf hz pa 0 cap [] (by simp) (by simp) ⟨b', off', none⟩ 1 cap' vs' hl' hnews (by omega) (by omega) (by simpa using growslice_fits (by omega) (by simpa using hnb))
                    simp only [Nat.zero_add] at key
                    refine ⟨_, _, by rw [he, he']; exact key, hC, ?_, ?_⟩
                    · have := hsize vs' (by rw [hvl', Nat.one_mul])
                      simpa using this
                    · rw [Nat.one_mul, ← hvl']; simp
                · obtain ⟨b, off, rfl, hcell⟩ := hadr.resolve_left hn0
                  refine ⟨_, _, by rw [he, he']; exact run_append_grow st.w tx A.type e i z hu hinf hz ⟨b, off, none⟩ es.length cap ovs (by rw [hisz]; exact hvl) (fun j v hv => by rw [addr_add]; exact (hcell j v hv).1) ⟨b', off', none⟩ 1 cap' vs' hl' hnews hgr (by omega) (growslice_fits (by omega) hnb), hC, ?_, ?_⟩
                  · have := hsize (ovs ++ vs') (by rw [List.length_append, hvl, hvl', Nat.add_mul, Nat.one_mul])
                    simpa using this
                  · have : (ovs ++ vs').length = (es.length + 1) * sz := by rw [List.length_append, hvl, hvl', Nat.add_mul, Nat.one_mul]
                    rw [← this]
                    simp only [Array.toList_append]
                    rw [List.take_append_of_le_length (by simp)]
                    exact List.take_of_length_le (by simp)
              obtain ⟨C, cs, hrun, hC1, hC2, hC3⟩ := hrun
              have hcell2 : (st.w.drew.alloc (.cells cs e)).heap[st.w.heap.size]? = some (.cells cs e (0, 0)) := heap_alloc_new st.w.drew _
              have hnew0 : Newer st.w (st.w.drew.alloc (.cells cs e)) := (Newer.drew _).trans (Newer.alloc _ _)
              have hnew := hnew0.setRow (k := st.w.heap.size) (Nat.le_refl _) (cs.toList.take (es.length * sz) ++ (a.eval vs).cells.toList ++ cs.toList.drop (es.length * sz + sz)).toArray
              let ext' : Nat → Nat := fun b => if b = st.w.heap.size then (es.length + 1) * sz else st.ext b
              have hext : ∀ b, b < st.w.heap.size → ext' b = st.ext b := fun b hb => by simp only [ext']; rw [if_neg (by omega)]
              have hextn : ext' st.w.heap.size = (es.length + 1) * sz := by simp [ext']
              obtain ⟨hok, hst⟩ := h1.newer hnew hext (fun b hb => by
                have hb' : st.w.heap.size + 1 ≤ b := by simpa [World.setRow] using hb
                simp only [ext']; rw [if_neg (by omega)]; exact h.sr.fresh b (by omega))
              have hcsz : (es.length + 1) * sz ≤ cs.size := Nat.le_trans (Nat.mul_le_mul_right _ hC1) hC2
              refine fin _ st.w.heap.size C cs e ext' hrun hcell2 (by rw [Nat.add_mul, Nat.one_mul] at hcsz; exact hcsz) hC1 hC2 ?_ hextn (hnew.grow h.sr hext) hok hst ⟨h.top, by simp, fun hS => by have := h.sr.small _ hS; omega⟩ (fun p hp => by
                have := (h1.priv p _ hp).2.1
                omega)
              have := congrArg (List.take (es.length * sz)) hC3
              rw [List.take_take, Nat.min_eq_left (Nat.mul_le_mul_right _ (by omega)), ← hvl, List.take_append_of_le_length (Nat.le_refl _), List.take_of_length_le (Nat.le_refl _)] at this
              rw [← hvl]; exact this
            cases g with
            | none =>
              have : cap = es.length := hg1 pa es.length cap he
              exact grown (by omega)
            | some gb =>
              obtain ⟨n2, cap2, sz2, es2, cur, et, k1, k2, k3, k4, k5⟩ := hg1
              cases k1
              rw [he] at k2; cases k2
              by_cases hroom : es.length + 1 ≤ cap
              · -- in its own row
                have hfitr : es.length * i.size + vs'.length ≤ cur.size := by
                  rw [hisz, hvl']
                  have := Nat.le_trans (Nat.mul_le_mul_right sz hroom) k5
                  rw [Nat.add_mul, Nat.one_mul] at this
                  exact this
                have hrun := run_append_own (P := G.P) st.w tx A.type e et i hu hinf gb es.length cap cur k4 ⟨b', off', none⟩ 1 cap' vs' hl' hnews hone' hroom hfitr
                rw [← he, ← he'] at hrun
                obtain ⟨new, hnew⟩ : ∃ new : Array Value, new = (cur.toList.take (es.length * i.size) ++ vs' ++ cur.toList.drop (es.length * i.size + vs'.length)).toArray := ⟨_, rfl⟩
                rw [← hnew] at hrun
                have hnewl : new.toList = cur.toList.take (es.length * sz) ++ vs' ++ cur.toList.drop (es.length * sz + vs'.length) := by rw [hnew, hisz]
                have hheap : (st.w.setRow gb new).heap[gb]? = some (.cells new et (0, 0)) := setRow_heap _ _ _ _ _ _ k4
                have hnsz : new.size = cur.size := by
                  have := congrArg List.length hnewl
                  rw [hisz] at hfitr
                  simp only [List.length_append, List.length_take, List.length_drop, Array.length_toList] at this
                  omega
                let ext' : Nat → Nat := fun b => if b = gb then (es.length + 1) * sz else st.ext b
                have hext : ∀ b, b ≠ gb → ext' b = st.ext b := fun b hb => by simp only [ext']; rw [if_neg hb]
                have hextg : ext' gb = (es.length + 1) * sz := by simp [ext']
                have hvs : ovs = cur.toList.take (es.length * sz) := by
                  by_cases hv0 : ovs = []
                  · rw [hv0] at hvl
                    have : es.length * sz = 0 := by simpa using hvl.symm
                    rw [this, hv0]; rfl
                  · obtain ⟨b, off, hb, hcell⟩ := hadr.resolve_left hv0
                    injection hb with hb; injection hb with hb1' hb2'
                    subst hb1'; subst hb2'
                    apply List.ext_getElem?
                    intro j
                    rcases Nat.lt_or_ge j ovs.length with hj | hj
                    · have := (hcell j ovs[j] (List.getElem?_eq_getElem hj)).1
                      rw [Nat.zero_add, cell_row k4] at this
                      rw [List.getElem?_take_of_lt (by omega), List.getElem?_eq_getElem hj]
                      simpa using this.symm
                    · rw [List.getElem?_eq_none hj, List.getElem?_eq_none (by simp; omega)]
                have htake : new.toList.take (es.length * sz) = ovs := by
                  rw [hnewl, List.append_assoc, ← hvs, ← hvl, List.take_append_of_le_length (Nat.le_refl _)]
                  exact List.take_of_length_le (Nat.le_refl _)
                have hturn : Turn st.w ((st.w.setRow gb new).setRow gb (new.toList.take (es.length * sz) ++ (a.eval vs).cells.toList ++ new.toList.drop (es.length * sz + sz)).toArray) gb := by
                  rw [setRow_setRow]; exact Turn.setRow _ _ _
                have hheap2 := setRow_cells (cs := (new.toList.take (es.length * sz) ++ (a.eval vs).cells.toList ++ new.toList.drop (es.length * sz + sz)).toArray) hheap
                have hgrow : Grow st.w st.ext st.ι ((st.w.setRow gb new).setRow gb (new.toList.take (es.length * sz) ++ (a.eval vs).cells.toList ++ new.toList.drop (es.length * sz + sz)).toArray) ext' st.ι := by
                  refine hturn.grow hext (by rw [hextg, k3]; exact Nat.mul_le_mul_right _ (by omega)) fun oo u ho hv => ?_
                  rw [cell_row hheap2]
                  rw [cell_row k4] at hv
                  rw [k3] at ho
                  have : (new.toList.take (es.length * sz) ++ (a.eval vs).cells.toList ++ new.toList.drop (es.length * sz + sz))[oo]? = some u := by
                    rw [htake, hvs, List.append_assoc, List.getElem?_append_left (by
                      have := congrArg List.length hvs
                      rw [hvl] at this; rw [← this]; exact ho), List.getElem?_take_of_lt ho]
                    simpa using hv
                  simpa using this
                obtain ⟨hok, hst⟩ := h1.turn hgrow hturn hext (hg3 gb rfl) (hg2 gb rfl)
                refine fin _ gb cap new et ext' hrun hheap ?_ hroom (by rw [hnsz]; exact k5) htake hextg hgrow hok hst ⟨(hg2 gb rfl).1, by simpa [World.setRow] using (hg2 gb rfl).2.1, (hg2 gb rfl).2.2⟩ (hg3 gb rfl)
                rw [hnsz]
                have := hfitr
                rw [hisz, hvl'] at this
                exact this
              · exact grown (by omega)
          subst d1'
          refine ⟨tx, ts, x, y, ii, vs, pb, d2, q1, _, es.length, hA, hI, hS, hB, hAd, hId, hSd, hBd, by simpa using g1, by simpa using g2, by simpa using g3, by simpa using g4, a7, a8, a4, b4, b5, b6, ⟨kk, by rw [hii, e1]⟩, o1, by rw [o3], d4', ⟨e, hu, by rw [hinf]; rfl, by rw [← c1]⟩, ⟨es, v, ?_⟩, key⟩
          rw [← hc, apply_append]
          show upd (upd _ d2 _) q1 _ d2 = _
          rw [upd_other _ _ _ a4, upd_same]
        · simp at hc
      · simp at hc
    · simp at hc
  · simp at hc

end Go.AI

/- The abstract machine: such regions in whatever order. -/
namespace Go.AI
set_option linter.unusedVariables false
set_option linter.unusedSimpArgs false
open Go

variable {G : Prg} {an : Ann} {E : EE} {B0 : Nat → Prop} {st st0 : St} {ρ ρm ρ' : Env} {σ σ' : Sig} {a : Act} {o : Oper} {tmps : Array Value} {O : Task → Option Res} {ops : Array Oper} {quiet : Bool}

theorem set_listed {listed : Array Bool} {i k : Nat} (h : i < listed.size) : Listed (listed.setIfInBounds i true) k ↔ k = i ∨ Listed listed k := by
  unfold Listed
  by_cases hki : k = i
  · subst hki
    simp [Array.getD_eq_getD_getElem?, Array.getElem?_setIfInBounds_self_of_lt h]
  · rw [Array.getD_eq_getD_getElem?, Array.getD_eq_getD_getElem?, Array.getElem?_setIfInBounds_ne (Ne.symm hki)]
    simp [hki]

theorem unlisted {listed : Array Bool} {j : Nat} (hj : j < listed.size) : listed.getD j true = false ↔ ¬ Listed listed j := by
  unfold Listed
  rw [Array.getD_eq_getD_getElem?, Array.getD_eq_getD_getElem?, Array.getElem?_eq_getElem hj]
  simp

structure PenChk (G : Prg) (an : Ann) (quiet : Bool) (ops : Array Oper) (m : Nat) : Prop where
  size : m + 4 = ops.size
  edge : ∀ j o, ops[j]? = some o → ∀ e ∈ o.after.toList, Region.binds .any e = true → e.on < j
  pair : ∀ j o, j < m → ops[j]? = some o → ∀ i, i < j → ∀ p, ops[i]? = some p → bef ops 8 i j = true ∨ indep G an quiet ops p o = true
  front : ∀ i, i < m → bef ops 8 i m = true
  b1 : bef ops 8 m (m + 1) = true
  b2 : bef ops 8 m (m + 3) = true
  b3 : bef ops 8 (m + 1) (m + 2) = true

theorem penOK_chk (h : penOK G an quiet ops = true) : PenChk G an quiet ops (ops.size - 4) := by
  unfold penOK at h
  simp only [Bool.and_eq_true, decide_eq_true_eq, List.all_eq_true, List.mem_range] at h
  obtain ⟨⟨⟨⟨⟨h1, h2⟩, h3⟩, h4⟩, h5⟩, h6⟩ := h
  have hchk := fun j o (ho : ops[j]? = some o) => h2 j (Array.getElem?_eq_some_iff.1 ho).1
  refine ⟨by omega, fun j o ho e he hb => ?_, fun j o hj ho i hi p hp => ?_, h3, h4, h5, h6⟩
  · have := hchk j o ho
    rw [ho] at this
    simp only [Bool.and_eq_true, List.all_eq_true, Bool.or_eq_true, Bool.not_eq_true', decide_eq_true_eq] at this
    rcases this.1 e he with h | h
    · rw [hb] at h; cases h
    · exact h
  · have := hchk j o ho
    rw [ho] at this
    simp only [Bool.and_eq_true, Bool.or_eq_true, decide_eq_true_eq, List.all_eq_true, List.mem_range] at this
    rcases this.2 with h | h
    · omega
    · have := h i hi
      rw [hp] at this
      simpa using this

/-- The front, in whatever order. -/
theorem front_sound (hP : PrgOK G) {k : Nat} (hO : OrSound G k O) (r : Option Nat) (n : Nat) {Q : Exit → Act → World → Prop} {ds : List Deferred} {m : Nat} (hreg : PenChk G E.an quiet ops m)
    (hT : ∀ (listed : Array Bool) (a : Act) (st : St), listed.size = ops.size → (∀ j, j < ops.size → (Listed listed j ↔ j < m)) → OK G E.an B0 st ρ' σ' a.tmps → Step B0 st0 st → a.defers = ds → wpAnyIn (fen r) n G.P .any ops Q 4 listed a st.w) :
    ∀ (fuel : Nat) (R : List Nat) (listed : Array Bool) (ρ : Env) (σ : Sig) (st : St) (a : Act), R.length = fuel → R.Pairwise (· < ·) → listed.size = ops.size → (∀ i, i ∈ R ↔ i < m ∧ ¬ Listed listed i) → (∀ j, m ≤ j → ¬ Listed listed j) →
      (∀ j, Listed listed j → ∀ o, ops[j]? = some o → ∀ e ∈ o.after.toList, Region.binds .any e = true → Listed listed e.on) →
      aopsI G E O ops quiet R ρ σ = some (ρ', σ') → OK G E.an B0 st ρ σ a.tmps → Step B0 st0 st → a.defers = ds → wpAnyIn (fen r) n G.P .any ops Q (fuel + 4) listed a st.w := by
  have hsize := hreg.size
  intro fuel
  induction fuel with
  | zero =>
    intro R listed ρ σ st a hlen hp hs hR hm hd h hok hst hds
    have hRn : R = [] := List.eq_nil_of_length_eq_zero hlen
    subst hRn
    simp only [aopsI, Option.some.injEq, Prod.mk.injEq] at h
    obtain ⟨rfl, rfl⟩ := h
    refine hT listed a st hs (fun j hj => ⟨fun hl => ?_, fun hj' => ?_⟩) hok hst hds
    · rcases Nat.lt_or_ge j m with h' | h'
      · exact h'
      · exact absurd hl (hm j h')
    · refine Classical.byContradiction fun hl => ?_
      have := (hR j).2 ⟨hj', hl⟩
      cases this
  | succ fuel ih =>
    intro R listed ρ σ st a hlen hp hs hR hm hd h hok hst hds
    refine ⟨fun hnil => ?_, fun i hi => ?_⟩
    · exfalso
      cases R with
      | nil => simp at hlen
      | cons i R =>
        obtain ⟨k1, k2⟩ := (hR i).1 (by simp)
        have hisz : i < ops.size := by omega
        have hoi : ops[i]? = some ops[i] := Array.getElem?_eq_getElem hisz
        have : i ∈ Region.ready .any ops listed := by
          refine mem_ready.2 ⟨(unlisted (by omega)).2 k2, ops[i], hoi, fun e he hb => ?_⟩
          have hlt := hreg.edge i _ hoi e (by simpa using he) hb
          refine Classical.byContradiction fun hq => ?_
          have := (hR e.on).2 ⟨by omega, hq⟩
          rcases List.mem_cons.1 this with h' | h'
          · omega
          · have := (List.pairwise_cons.1 hp).1 _ h'
            omega
        rw [hnil] at this
        cases this
    · obtain ⟨k1, o, ho, k3⟩ := mem_ready.1 hi
      have hisz := (Array.getElem?_eq_some_iff.1 ho).1
      have k1 := (unlisted (by omega)).1 k1
      have hal : ∀ e ∈ o.after.toList, Region.binds .any e = true → Listed listed e.on := fun e he hb => k3 e (by simpa using he) hb
      -- it is one of the front
      have him : i < m := by
        rcases Nat.lt_or_ge i m with h' | h'
        · exact h'
        · exfalso
          cases R with
          | nil => simp at hlen
          | cons p R =>
            obtain ⟨q1, q2⟩ := (hR p).1 (by simp)
            -- the append waits for all of the front, the others wait for it
            have hmi : i = m ∨ Listed listed m := by
              have hcase : i = m ∨ i = m + 1 ∨ i = m + 2 ∨ i = m + 3 := by omega
              rcases hcase with rfl | rfl | rfl | rfl
              · exact .inl rfl
              · exact .inr (bef_listed hd 8 _ o ho hal hreg.b1)
              · have := bef_listed hd 8 _ o ho hal hreg.b3
                exact absurd this (hm _ (by omega))
              · exact .inr (bef_listed hd 8 _ o ho hal hreg.b2)
            rcases hmi with rfl | hmi
            · exact q2 (bef_listed hd 8 _ o ho hal (hreg.front p q1))
            · exact hm m (Nat.le_refl _) hmi
      have hiR := (hR i).2 ⟨him, k1⟩
      have hfront := move_front (i := i) R ρ σ _ hp hiR (fun p hpR hpi op oi hop hoi => by
        rw [ho] at hoi; cases hoi
        rcases hreg.pair i o him ho p hpi op hop with hb | hb
        · have hl := bef_listed hd 8 i o ho hal hb
          exact absurd hl ((hR p).1 hpR).2
        · exact hb) h
      obtain ⟨ρ1, σ1, h1, h2⟩ := aopsI_cons hfront ho
      have hnd : R.Nodup := hp.imp fun h => Nat.ne_of_lt h
      refine op_sound hP hO r n ho hok h1 fun a' st' hok' hst' hd' => ?_
      have hls : i < listed.size := by omega
      refine ih (R.erase i) (listed.setIfInBounds i true) ρ1 σ1 st' a' (by rw [List.length_erase_of_mem hiR]; omega) (hp.sublist List.erase_sublist) (by simpa using hs) (fun j => ?_) (fun j hj => ?_) (fun j hj oj hoj e he hb => ?_) h2 hok' (hst.trans hst') (hd'.trans hds)
      · rw [hnd.mem_erase_iff, hR j, set_listed hls]
        constructor
        · rintro ⟨q1, q2, q3⟩
          exact ⟨q2, fun hq => hq.elim q1 q3⟩
        · rintro ⟨q1, q2⟩
          exact ⟨fun hq => q2 (.inl hq), q1, fun hq => q2 (.inr hq)⟩
      · rw [set_listed hls]
        rintro (hq | hq)
        · omega
        · exact hm j hj hq
      · rw [set_listed hls] at hj ⊢
        rcases hj with rfl | hj
        · rw [ho] at hoj; cases hoj
          exact .inr (hal e he hb)
        · exact .inr (hd j hj oj hoj e he hb)

/-! ### The last four -/

def ClosedL (ops : Array Oper) (listed : Array Bool) : Prop := ∀ j, Listed listed j → ∀ o, ops[j]? = some o → ∀ e ∈ o.after.toList, Region.binds .any e = true → Listed listed e.on

theorem any_step {r : Option Nat} {n f : Nat} {Q : Exit → Act → World → Prop} {listed : Array Bool} {w : World} (hs : listed.size = ops.size) (hcl : ClosedL ops listed)
    (hedge : ∀ j o, ops[j]? = some o → ∀ e ∈ o.after.toList, Region.binds .any e = true → e.on < j) (hex : ∃ j, j < ops.size ∧ ¬ Listed listed j)
    (h : ∀ i, i < ops.size → ¬ Listed listed i → (∀ p, bef ops 8 p i = true → Listed listed p) → ClosedL ops (listed.setIfInBounds i true) → wpOpIn (fen r) n G.P ops Q i (wpAnyIn (fen r) n G.P .any ops Q f (listed.setIfInBounds i true)) a w) :
    wpAnyIn (fen r) n G.P .any ops Q (f + 1) listed a w := by
  refine ⟨fun hnil => ?_, fun i hi => ?_⟩
  · exfalso
    have hmin : ∀ j, j < ops.size → ¬ Listed listed j → ∃ j, j < ops.size ∧ ¬ Listed listed j ∧ ∀ i, i < j → Listed listed i := by
      intro j
      induction j using Nat.strongRecOn with
      | _ j ih =>
        intro hj hl
        by_cases hk : ∃ i, i < j ∧ ¬ Listed listed i
        · obtain ⟨i, h1, h2⟩ := hk
          exact ih i h1 (by omega) h2
        · exact ⟨j, hj, hl, fun i hi => Classical.byContradiction fun hc => hk ⟨i, hi, hc⟩⟩
    obtain ⟨j0, k1, k2⟩ := hex
    obtain ⟨j, k1, k2, k3⟩ := hmin j0 k1 k2
    have : j ∈ Region.ready .any ops listed := mem_ready.2 ⟨(unlisted (by omega)).2 k2, ops[j], Array.getElem?_eq_getElem k1, fun e he hb => k3 _ (hedge j _ (Array.getElem?_eq_getElem k1) e (by simpa using he) hb)⟩
    rw [hnil] at this
    cases this
  · obtain ⟨k1, o, ho, k3⟩ := mem_ready.1 hi
    have hisz := (Array.getElem?_eq_some_iff.1 ho).1
    have hal : ∀ e ∈ o.after.toList, Region.binds .any e = true → Listed listed e.on := fun e he hb => k3 e (by simpa using he) hb
    refine h i hisz ((unlisted (by omega)).1 k1) (fun p hp => bef_listed hcl 8 i o ho hal hp) fun j hj oj hoj e he hb => ?_
    rw [set_listed (by omega)] at hj ⊢
    rcases hj with rfl | hj
    · rw [ho] at hoj; cases hoj
      exact .inr (hal e he hb)
    · exact .inr (hcl j hj oj hoj e he hb)

theorem any_done {r : Option Nat} {n : Nat} {Q : Exit → Act → World → Prop} {listed : Array Bool} {w : World} (hs : listed.size = ops.size) (h : ∀ j, j < ops.size → Listed listed j) (hQ : Q .normal a w) :
    wpAnyIn (fen r) n G.P .any ops Q 0 listed a w := by
  refine ⟨?_, hQ⟩
  cases hr : Region.ready .any ops listed with
  | nil => rfl
  | cons x xs =>
    have hx : x ∈ Region.ready .any ops listed := by rw [hr]; simp
    obtain ⟨k1, o, ho, _⟩ := mem_ready.1 hx
    have hlt := (Array.getElem?_eq_some_iff.1 ho).1
    exact absurd (h x hlt) ((unlisted (by omega)).1 k1)

theorem index_run {I : Oper} {tx e : TypeId} {d b n C : Nat} {k : IntKind} {ii : Operand} {w : World} (hI : I.op = .indexAddr tx (.tmp d) ii) (hu : G.P.underlying tx = some (.slice e)) (hi : (G.P.info? e).isSome = true)
    (he : a.eval (.tmp d) = .slice (some ⟨b, 0, none⟩) (n + 1) C) (hii : a.eval ii = .int k n) : (execOp a.eval I).run G.P w = .ok (.value (.pointer (some ⟨b, n * G.P.cellsOf e, none⟩))) w := by
  have hl : (n : Int) < ((n + 1 : Nat) : Int) := by omega
  have h0 : (0 : Int) ≤ (n : Int) := by omega
  simp [execOp, hI, he, hii, Instr.indexAt, asIntOf, run_underlying hu, h0, hl, sizeOf_run _ hi, addr_add]

/-- A store of a frame, and where it goes. -/
theorem store_goal {B : Oper} {tb : TypeId} {pb x : Operand} (hB : B.op = .store tb pb x) (hg : B.guard = none) (h : OK G E.an B0 st ρ σ a.tmps) (haop : aop G E O ops quiet B ρ σ = some (ρ', σ')) :
    OpGoal G E.an B0 st a B ρ' σ' ∧ (∀ y ∈ (a.eval x).cells.toList, y.oneCell' = true) ∧ (a.eval x).cells.toList.length = G.P.cellsOf tb ∧ (G.P.info? tb).isSome = true ∧
      ∃ bx off vs e, a.eval pb = .pointer (some ⟨bx, off, none⟩) ∧ st.w.heap[bx]? = some (.cells vs e (0, 0)) ∧ off + G.P.cellsOf tb ≤ vs.size ∧ (∀ t i c, Has st.L ρ (.own t i) c → c ≠ bx) := by
  obtain ⟨ups, s, hstep, hfit, rfl, rfl⟩ := aop_spec haop
  have hs := mask_sub (rdOf E.an ops B) ρ
  have hm : ∀ t ∈ rdOf E.an ops B, mask (rdOf E.an ops B) ρ t = ρ t := fun t ht => by simp [mask, ht]
  have hf : Fit E.an ups := fun u hu => (hfit u hu).2
  have hw : want (mask (rdOf E.an ops B) ρ) ops B = some true := by simp [want, hg]
  have hcall : isCall B = false := by simp [isCall, hB]
  have harr : arrOp G E B (mask (rdOf E.an ops B) ρ) = none := by simp [arrOp, hB]
  simp only [stepOp, hw, hcall, harr, Bool.false_eq_true, if_false] at hstep
  have hc := core_mode (quiet := quiet) hcall hstep
  refine ⟨sound_core (ops := ops) hcall h hs hm hc hf, ?_⟩
  simp only [core, hB, Option.bind_eq_bind, Option.bind_eq_some_iff] at hc
  obtain ⟨v, hv, hc⟩ := hc
  split at hc
  · simp at hc
  · rename_i hcond
    simp only [not_or, Decidable.not_not] at hcond
    obtain ⟨c1, c2, c3⟩ := hcond
    have c2 : v.okc = true := eq_true_of_ne_false c2
    have c3 : (G.P.info? tb).isSome = true := eq_true_of_ne_false c3
    rw [Option.bind_eq_some_iff] at hc
    obtain ⟨q, hq, hc⟩ := hc
    obtain ⟨o1, o2⟩ := (opv_rep h rfl hs hv).one c2
    refine ⟨o1, by rw [← o2.length, c1], c3, ?_⟩
    cases q with
    | im cs => simp at hc
    | loc s off =>
      obtain ⟨he, hl0⟩ := ptrOf_loc h rfl hs hq
      dsimp only at hc
      split at hc
      · rename_i cs ow hρ
        have hρ' := hs.val hρ (by simp)
        split at hc
        · rename_i hle
          have hsl := h.slot s
          rw [hρ'] at hsl
          obtain ⟨k1, k2, vs, e, k3, k4, k5, k6⟩ := hsl
          refine ⟨_, off, vs, e, he, k3, ?_, fun t i c hh hcb => ?_⟩
          · have := k4.length
            simp at this; omega
          · subst hcb
            have := h.inj _ _ _ hh (show Has st.L ρ (.box s) (st.L.β s) from ⟨by rw [hρ']; rfl, rfl⟩)
            cases this
        · simp at hc
      · simp at hc
    | sh id off =>
      dsimp only at hc
      split at hc
      · rename_i cs ow hσ
        split at hc
        · rename_i hle
          obtain ⟨bx, hb, he⟩ := rep_ptr_inv (ptrOf_sh h rfl hs hq)
          obtain ⟨k2, vs, e, k3, k4, k5, k6⟩ := h.sr.obj id _ bx hσ hb
          refine ⟨bx, off, vs, e, he, k3, ?_, fun t i c hh hcb => ?_⟩
          · have := k4.length
            simp at this; omega
          · subst hcb
            exact (h.priv _ _ hh).2.2 (h.sr.inS _ (List.mem_of_getElem? hb))
        · simp at hc
      · simp at hc

theorem pen_sound (hP : PrgOK G) {k : Nat} (hO : OrSound G k O) (r : Option Nat) (n : Nat) {Q : Exit → Act → World → Prop} {ds : List Deferred} {front : List Oper} {A I S B : Oper} {ups : List (Nat × Slot)} {ρ1 : Env} {σ1 : Sig}
    (hreg : penOK G E.an quiet ops = true) (hp : penParts ops = some (front, A, I, S, B)) (h1 : aops G E O ops quiet front ρ σ = some (ρ1, σ1)) (h2 : penUps G E A I S B ρ1 = some ups)
    (h3 : aop G E O ops quiet B (apply ups ρ1) σ1 = some (ρ', σ')) (hok : OK G E.an B0 st ρ σ a.tmps) (hst : Step B0 st0 st) (hds : a.defers = ds)
    (hQ : ∀ a' st', OK G E.an B0 st' ρ' σ' a'.tmps → Step B0 st0 st' → a'.defers = ds → Q .normal a' st'.w) :
    wpAnyIn (fen r) n G.P .any ops Q ops.size (Array.replicate ops.size false) a st.w := by
  have hchk := penOK_chk hreg
  obtain ⟨m, hm⟩ : ∃ m, m = ops.size - 4 := ⟨_, rfl⟩
  rw [← hm] at hchk
  have hsz := hchk.size
  -- the four
  unfold penParts at hp
  rw [← hm] at hp
  split at hp
  · rename_i A' I' S' B' hdrop
    simp only [Option.some.injEq, Prod.mk.injEq] at hp
    obtain ⟨rfl, rfl, rfl, rfl, rfl⟩ := hp
    have hget : ∀ i o, (ops.toList.drop m)[i]? = some o → ops[m + i]? = some o := by
      intro i o h
      rw [List.getElem?_drop] at h
      simpa using h
    have hoA : ops[m]? = some A' := hget 0 A' (by rw [hdrop]; rfl)
    have hoI : ops[m + 1]? = some I' := hget 1 I' (by rw [hdrop]; rfl)
    have hoS : ops[m + 2]? = some S' := hget 2 S' (by rw [hdrop]; rfl)
    have hoB : ops[m + 3]? = some B' := hget 3 B' (by rw [hdrop]; rfl)
    -- the front, by index
    have hfr : aopsI G E O ops quiet (List.range m) ρ σ = some (ρ1, σ1) := by
      rw [← h1]
      have key : ∀ (l : List Oper) (i : Nat) (ρ : Env) (σ : Sig), (∀ j o, l[j]? = some o → ops[i + j]? = some o) → aopsI G E O ops quiet (List.range' i l.length) ρ σ = aops G E O ops quiet l ρ σ := by
        intro l
        induction l with
        | nil => intro i ρ σ _; rfl
        | cons o l ih =>
          intro i ρ σ hl
          have ho : ops[i]? = some o := by simpa using hl 0 o rfl
          simp only [List.length_cons, List.range'_succ, aopsI, ho, aops]
          cases aop G E O ops quiet o ρ σ with
          | none => rfl
          | some x => exact ih (i + 1) x.1 x.2 fun j o' hj => by rw [Nat.add_assoc, Nat.add_comm 1 j]; exact hl (j + 1) o' hj
      have := key (ops.toList.take m) 0 ρ σ fun j o hj => by
        rcases Nat.lt_or_ge j m with hj' | hj'
        · rw [List.getElem?_take_of_lt hj'] at hj
          simpa using hj
        · rw [List.getElem?_eq_none (by simp; omega)] at hj; cases hj
      rw [List.length_take, Nat.min_eq_left (by simp; omega)] at this
      rw [List.range_eq_range']; exact this
    have hnoL : ∀ j, ¬ Listed (Array.replicate ops.size false) j := by
      intro j hj
      unfold Listed at hj
      rw [Array.getD_eq_getD_getElem?, Array.getElem?_replicate] at hj
      split at hj <;> simp at hj
    have hfin := front_sound (Q := Q) (ds := ds) (B0 := B0) (st0 := st0) hP hO r n hchk (fun listed a st hs hl hok hst hds => ?_) m (List.range m) (Array.replicate ops.size false) ρ σ st a (by simp) List.pairwise_lt_range (by simp) (fun i => by
      rw [List.mem_range]; exact ⟨fun h => ⟨h, hnoL i⟩, fun h => h.1⟩) (fun j _ => hnoL j) (fun j hj => absurd hj (hnoL j)) hfr hok hst hds
    · rw [hsz] at hfin; exact hfin
    -- the last four
    obtain ⟨tx, ts, x, y, ii, vs, pb, d, q, tb, nn, hA, hI, hS, hB, hAd, hId, hSd, hBd, hAg, hIg, hSg, hBg, hdn, hqn, hdq, ai, av, ap, ⟨kk, hii⟩, v1, v2, v3, ⟨e, hu, hei, hce⟩, ⟨es, v, hρd⟩, w1, b, C, cur, e0, st2, r1, r2, r3, r4, r5, r6, r7⟩ := pen_three hok h2
    obtain ⟨sz, hszd⟩ : ∃ sz, sz = G.P.cellsOf ts := ⟨_, rfl⟩
    rw [← hszd] at r3 r4 r6
    have hts : a.tmps.size = E.an.ntmps := hok.size
    obtain ⟨aA, haA⟩ : ∃ aA, aA = a.put (some d) (.slice (some ⟨b, 0, none⟩) (nn + 1) C) := ⟨_, rfl⟩
    obtain ⟨aI, haI⟩ : ∃ aI, aI = aA.put (some q) (.pointer (some ⟨b, nn * sz, none⟩)) := ⟨_, rfl⟩
    have eAd : aA.eval (.tmp d) = .slice (some ⟨b, 0, none⟩) (nn + 1) C := by rw [haA]; exact eval_put_same (by omega)
    have eAi : aA.eval ii = .int kk nn := by rw [haA, (eval_put_apart ai).1]; exact hii
    have eAp : aI.eval pb = a.eval pb := by rw [haI, (eval_put_apart ap).2, haA, (eval_put_apart ap).1]
    have eAp' : aA.eval pb = a.eval pb := by rw [haA, (eval_put_apart ap).1]
    have eIv : aI.eval vs = a.eval vs := by rw [haI, (eval_put_apart av).2, haA, (eval_put_apart av).1]
    have eId : aI.eval (.tmp d) = .slice (some ⟨b, 0, none⟩) (nn + 1) C := by rw [haI, eval_put_other hdq]; exact eAd
    have eIq : aI.eval (.tmp q) = .pointer (some ⟨b, nn * sz, none⟩) := by
      rw [haI]; exact eval_put_same (by rw [haA]; simp [Act.put]; omega)
    have htm : aI.tmps = (a.tmps.setIfInBounds d (.slice (some ⟨b, 0, none⟩) (nn + 1) C)).setIfInBounds q (.pointer (some ⟨b, nn * sz, none⟩)) := by rw [haI, put_tmps, haA, put_tmps]
    rw [← htm] at r6
    -- the last store
    obtain ⟨⟨vB, st3, hrunB, hok3, hst3⟩, x1, x2, x3, bx, off, vsB, eB, p1, p2, p3, p4⟩ := store_goal (B := B') (a := aI) hB hBg r6 h3
    have hbx : b ≠ bx := p4 d 0 b r5
    obtain ⟨row, hrow⟩ : ∃ row, row = (cur.toList.take (nn * sz) ++ (a.eval vs).cells.toList ++ cur.toList.drop (nn * sz + (a.eval vs).cells.toList.length)).toArray := ⟨_, rfl⟩
    have r4' : st2.w = w1.setRow b row := by rw [r4, hrow, v2, ← hszd]
    have p2' : w1.heap[bx]? = some (.cells vsB eB (0, 0)) := by
      rw [r4', setRow_other _ _ _ _ (Ne.symm hbx)] at p2; exact p2
    obtain ⟨rowB, hrowB⟩ : ∃ rowB, rowB = (vsB.toList.take off ++ (aI.eval (.tmp d)).cells.toList ++ vsB.toList.drop (off + (aI.eval (.tmp d)).cells.toList.length)).toArray := ⟨_, rfl⟩
    have runB : ∀ (x : Act) (w : World), x.eval pb = a.eval pb → x.eval (.tmp d) = aI.eval (.tmp d) → w.heap[bx]? = some (.cells vsB eB (0, 0)) → (execOp x.eval B').run G.P w = .ok .skip (w.setRow bx rowB) := by
      intro x w h1 h2 h3
      have := store_run (a := x) (w := w) hB (by rw [h1, ← eAp]; exact p1) h3 (by rw [h2]; exact x1) (by rw [h2]; exact x2) x3 p3
      rw [h2, ← hrowB] at this
      exact this
    have runS : ∀ (x : Act) (w : World), x.eval (.tmp q) = .pointer (some ⟨b, nn * sz, none⟩) → x.eval vs = a.eval vs → w.heap[b]? = some (.cells cur e0 (0, 0)) → (execOp x.eval S').run G.P w = .ok .skip (w.setRow b row) := by
      intro x w h1 h2 h3
      have := store_run (a := x) (w := w) hS h1 h3 (by rw [h2]; exact v1) (by rw [h2]; exact v2) v3 (by rw [← hszd]; exact r3)
      rw [h2, ← hrow] at this
      exact this
    have hce' : G.P.cellsOf e = sz := by rw [hce, hszd]
    have runI : ∀ (w : World), (execOp aA.eval I').run G.P w = .ok (.value (.pointer (some ⟨b, nn * sz, none⟩))) w := by
      intro w
      have := index_run (w := w) hI hu hei eAd eAi
      rw [hce'] at this; exact this
    -- what comes of it
    have hst3w : st3.w = (w1.setRow b row).setRow bx rowB ∧ vB = undef := by
      have hr := runB aI st2.w eAp rfl p2
      rcases hrunB with hr' | ⟨hr', hv⟩
      · rw [hr] at hr'; cases hr'
      · rw [hr] at hr'
        injection hr' with _ hw
        exact ⟨by rw [← hw, r4'], hv⟩
    have hfinal : Q .normal aI ((w1.setRow b row).setRow bx rowB) := by
      have := hQ aI st3 (by rw [hBd] at hok3; exact hok3) ((hst.trans r7).trans hst3) (by rw [haI, put_defers, haA, put_defers]; exact hds)
      rw [hst3w.1] at this; exact this
    have putn : ∀ (x : Act), x.put none undef = x := fun x => rfl
    have nd : ∀ {o : Oper}, (∃ t p x, o.op = .store t p x) → ∀ c, o.op ≠ .defer c := by
      rintro o ⟨t, p, x, h⟩ c hc; rw [h] at hc; cases hc
    have hclose : ClosedL ops listed := by
      intro j hj o ho e he hb
      have hjs := (Array.getElem?_eq_some_iff.1 ho).1
      have h1 := (hl j hjs).1 hj
      have h2 := hchk.edge j o ho e he hb
      exact (hl e.on (by omega)).2 (by omega)
    have L := @set_listed
    refine any_step (f := 3) hs hclose hchk.edge ⟨m, by omega, fun h => by have := (hl m (by omega)).1 h; omega⟩ fun i hi hni hbi hcl1 => ?_
    have him : i = m := by
      have h0 : ¬ i < m := fun h => hni ((hl i hi).2 h)
      have hcase : i = m ∨ i = m + 1 ∨ i = m + 2 ∨ i = m + 3 := by omega
      rcases hcase with h | h | h | h
      · exact h
      · subst h; have := (hl m (by omega)).1 (hbi m hchk.b1); omega
      · subst h; have := (hl (m + 1) (by omega)).1 (hbi (m + 1) hchk.b3); omega
      · subst h; have := (hl m (by omega)).1 (hbi m hchk.b2); omega
    subst him
    refine op_value hoA hAg (by intro c hc; rw [hA] at hc; cases hc) r1 ?_
    rw [hAd, ← haA]
    have hs1 : (listed.setIfInBounds i true).size = ops.size := by simpa using hs
    have hl1 : ∀ j, j < ops.size → (Listed (listed.setIfInBounds i true) j ↔ j < i + 1) := by
      intro j hj
      rw [set_listed (by omega), hl j hj]; omega
    refine any_step (f := 2) hs1 hcl1 hchk.edge ⟨i + 1, by omega, fun h => by have := (hl1 (i + 1) (by omega)).1 h; omega⟩ fun j hj hnj hbj hcl2 => ?_
    have hj' : j = i + 1 ∨ j = i + 3 := by
      have h0 : ¬ j < i + 1 := fun h => hnj ((hl1 j hj).2 h)
      have hcase : j = i + 1 ∨ j = i + 2 ∨ j = i + 3 := by omega
      rcases hcase with h | h | h
      · exact .inl h
      · subst h; have := (hl1 (i + 1) (by omega)).1 (hbj (i + 1) hchk.b3); omega
      · exact .inr h
    have hs2 : ((listed.setIfInBounds i true).setIfInBounds j true).size = ops.size := by simpa using hs
    rcases hj' with rfl | rfl
    · -- the address
      refine op_value hoI hIg (by intro c hc; rw [hI] at hc; cases hc) (runI w1) ?_
      rw [hId, ← haI]
      have hl2 : ∀ j, j < ops.size → (Listed ((listed.setIfInBounds i true).setIfInBounds (i + 1) true) j ↔ j < i + 2) := by
        intro j hj
        rw [set_listed (by omega), hl1 j hj]; omega
      refine any_step (f := 1) hs2 hcl2 hchk.edge ⟨i + 2, by omega, fun h => by have := (hl2 (i + 2) (by omega)).1 h; omega⟩ fun j hj hnj hbj hcl3 => ?_
      have hj' : j = i + 2 ∨ j = i + 3 := by
        have h0 : ¬ j < i + 2 := fun h => hnj ((hl2 j hj).2 h)
        omega
      have hs3 : (((listed.setIfInBounds i true).setIfInBounds (i + 1) true).setIfInBounds j true).size = ops.size := by simpa using hs
      rcases hj' with rfl | rfl
      · refine op_skip hoS hSg (nd ⟨_, _, _, hS⟩) (runS aI w1 eIq eIv r2) ?_
        rw [hSd, putn]
        have hl3 : ∀ j, j < ops.size → (Listed (((listed.setIfInBounds i true).setIfInBounds (i + 1) true).setIfInBounds (i + 2) true) j ↔ j < i + 3) := by
          intro j hj
          rw [set_listed (by omega), hl2 j hj]; omega
        refine any_step (f := 0) hs3 hcl3 hchk.edge ⟨i + 3, by omega, fun h => by have := (hl3 (i + 3) (by omega)).1 h; omega⟩ fun j hj hnj hbj hcl4 => ?_
        have hj' : j = i + 3 := by
          have h0 : ¬ j < i + 3 := fun h => hnj ((hl3 j hj).2 h)
          omega
        subst hj'
        refine op_skip hoB hBg (nd ⟨_, _, _, hB⟩) (runB aI _ eAp rfl (by rw [setRow_other _ _ _ _ (Ne.symm hbx)]; exact p2')) ?_
        rw [hBd, putn]
        refine any_done (by simpa using hs) (fun j hj => ?_) hfinal
        rw [set_listed (by omega), hl3 j hj]; omega
      · refine op_skip hoB hBg (nd ⟨_, _, _, hB⟩) (runB aI _ eAp rfl p2') ?_
        rw [hBd, putn]
        have hl3 : ∀ j, j < ops.size → (Listed (((listed.setIfInBounds i true).setIfInBounds (i + 1) true).setIfInBounds (i + 3) true) j ↔ j < i + 2 ∨ j = i + 3) := by
          intro j hj
          rw [set_listed (by omega), hl2 j hj]; omega
        refine any_step (f := 0) hs3 hcl3 hchk.edge ⟨i + 2, by omega, fun h => by have := (hl3 (i + 2) (by omega)).1 h; omega⟩ fun j hj hnj hbj hcl4 => ?_
        have hj' : j = i + 2 := by
          have h0 : ¬ (j < i + 2 ∨ j = i + 3) := fun h => hnj ((hl3 j hj).2 h)
          omega
        subst hj'
        refine op_skip hoS hSg (nd ⟨_, _, _, hS⟩) (runS aI _ eIq eIv (by rw [setRow_other _ _ _ _ hbx]; exact r2)) ?_
        rw [hSd, putn, setRow_comm _ (Ne.symm hbx)]
        refine any_done (by simpa using hs) (fun j hj => ?_) hfinal
        rw [set_listed (by omega), hl3 j hj]; omega
    · -- the slice is stored first
      refine op_skip hoB hBg (nd ⟨_, _, _, hB⟩) (runB aA _ eAp' (by rw [eAd, eId]) p2') ?_
      rw [hBd, putn]
      have hl2 : ∀ j, j < ops.size → (Listed ((listed.setIfInBounds i true).setIfInBounds (i + 3) true) j ↔ j < i + 1 ∨ j = i + 3) := by
        intro j hj
        rw [set_listed (by omega), hl1 j hj]; omega
      refine any_step (f := 1) hs2 hcl2 hchk.edge ⟨i + 1, by omega, fun h => by have := (hl2 (i + 1) (by omega)).1 h; omega⟩ fun j hj hnj hbj hcl3 => ?_
      have hj' : j = i + 1 := by
        have h0 : ¬ (j < i + 1 ∨ j = i + 3) := fun h => hnj ((hl2 j hj).2 h)
        have hcase : j = i + 1 ∨ j = i + 2 := by omega
        rcases hcase with h | h
        · exact h
        · subst h; have := (hl2 (i + 1) (by omega)).1 (hbj (i + 1) hchk.b3); omega
      subst hj'
      refine op_value hoI hIg (by intro c hc; rw [hI] at hc; cases hc) (runI _) ?_
      rw [hId, ← haI]
      have hs3 : (((listed.setIfInBounds i true).setIfInBounds (i + 3) true).setIfInBounds (i + 1) true).size = ops.size := by simpa using hs
      have hl3 : ∀ j, j < ops.size → (Listed (((listed.setIfInBounds i true).setIfInBounds (i + 3) true).setIfInBounds (i + 1) true) j ↔ j < i + 2 ∨ j = i + 3) := by
        intro j hj
        rw [set_listed (by simp; omega), hl2 j hj]; omega
      refine any_step (f := 0) hs3 hcl3 hchk.edge ⟨i + 2, by omega, fun h => by have := (hl3 (i + 2) (by omega)).1 h; omega⟩ fun j hj hnj hbj hcl4 => ?_
      have hj' : j = i + 2 := by
        have h0 : ¬ (j < i + 2 ∨ j = i + 3) := fun h => hnj ((hl3 j hj).2 h)
        omega
      subst hj'
      refine op_skip hoS hSg (nd ⟨_, _, _, hS⟩) (runS aI _ eIq eIv (by rw [setRow_other _ _ _ _ hbx]; exact r2)) ?_
      rw [hSd, putn, setRow_comm _ (Ne.symm hbx)]
      refine any_done (by simpa using hs) (fun j hj => ?_) hfinal
      rw [set_listed (by simp; omega), hl3 j hj]; omega
  · simp at hp

end Go.AI

