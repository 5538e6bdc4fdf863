/- The abstract machine: what stands in boxes is read and written. -/
import Derived.Test.YtdpamhejneicdaaGreatDoorZAI11
namespace Go.AI
set_option linter.unusedVariables false
set_option linter.unusedSimpArgs false
open Go

variable {G : Prg} {an : Ann} {E : EE} {B0 : Nat → Prop} {st : St} {ρ ρm : Env} {σ σ' : Sig} {ups : List (Nat × Slot)} {a : Act} {o : Oper} {tmps : Array Value}

theorem Turn.refl (w : World) (k : Nat) : Turn w w k := ⟨rfl, fun _ _ => rfl, rfl, rfl, rfl⟩

/-- One shared box is set anew. -/
theorem SR.setBox {w w' : World} {ext : Nat → Nat} {ι : List Nat} {S S' : Nat → Prop} {SL : Nat → Nat → Option Nat} (h : SR G w ext ι S SL σ) {id b : Nat} {cs cs' : List AV} {ow ow' : List Nat} {g' : Nat → Option Nat}
    (hid : σ[id]? = some (.box cs ow)) (hb : ι[id]? = some b) (ht : Turn w w' b) (hnew : ∀ ι', Grow w ext ι w' ext ι' → ObjOK w' ext ι' G (fun _ => g') σ id b (.box cs' ow'))
    (hS1 : ∀ x ∈ ι, S' x) (hS2 : ∀ id' o i x, id' ≠ id → σ[id']? = some o → i ∈ o.ows → SL id' i = some x → S' x) (hS3 : ∀ x, S' x → x < w.heap.size)
    (hg : ∀ i ∈ ow', ∀ x, g' i = some x → S' x ∧ x ∉ ι ∧ (∀ id' o i', id' ≠ id → σ[id']? = some o → i' ∈ o.ows → SL id' i' ≠ some x) ∧ ∀ j ∈ ow', g' j = some x → i = j) :
    Grow w ext ι w' ext ι ∧ SR G w' ext ι S' (fun i => if i = id then g' else SL i) (σ.set id (.box cs' ow')) := by
  have hold := h.obj id _ b hid hb
  have hg0 : Grow w ext ι w' ext ι := ht.grow (fun _ _ => rfl) (Nat.le_refl _) fun oo v ho _ => by rw [hold.1] at ho; omega
  have hidlt := (List.getElem?_eq_some_iff.1 hid).1
  have hget : ∀ (id' : Nat) (o' : AObj), (σ.set id (.box cs' ow'))[id']? = some o' → (id' ≠ id ∧ σ[id']? = some o') ∨ (id' = id ∧ o' = .box cs' ow') := by
    intro id' o' ho'
    by_cases hi : id' = id
    · subst hi; rw [List.getElem?_set_self hidlt] at ho'; simp at ho'; exact .inr ⟨rfl, ho'.symm⟩
    · rw [List.getElem?_set_ne (Ne.symm hi)] at ho'; exact .inl ⟨hi, ho'⟩
  have hne : ∀ id' x, id' ≠ id → ι[id']? = some x → x ≠ b := by
    intro id' x hi hx hxb
    subst hxb
    exact hi ((List.getElem?_inj (List.getElem?_eq_some_iff.1 hx).1 h.nodup).1 (hx.trans hb.symm))
  refine ⟨hg0, ⟨by simp [h.len], h.nodup, fun id' o' x ho' hx => ?_, hS1, fun id' o' i x ho' hi hx => ?_, fun id1 o1 i1 id2 o2 i2 x h1 hi1 hx1 h2 hi2 hx2 => ?_, fun x hx => by rw [ht.size]; exact hS3 x hx, fun x hx => h.fresh x (by rw [← ht.size]; exact hx), fun g aa ha => (h.globals g aa ha).mono hg0⟩⟩
  · rcases hget id' o' ho' with ⟨hi, ho'⟩ | ⟨rfl, rfl⟩
    · have hxb := hne id' x hi hx
      have := (h.obj id' o' x ho' hx).keep (σ' := σ.set id (.box cs' ow')) hg0 ⟨ht.blk x hxb, rfl⟩ fun i hi' c hc => by
        have := (h.ownS id' o' i c ho' hi' hc).2
        exact ⟨ht.blk c (by rintro rfl; exact this (List.mem_of_getElem? hb)), rfl⟩
      cases o' with
      | box cs ow =>
        obtain ⟨k1, vs, e, k2, k3, k4, k5⟩ := this
        exact ⟨k1, vs, e, k2, k3, k4, fun i hi' aa y ha hy => by simp only [if_neg hi]; exact k5 i hi' aa y ha hy⟩
      | loop L => exact ⟨this.ex⟩
    · have hxb : x = b := by rw [hb] at hx; simpa using hx.symm
      subst hxb
      obtain ⟨k1, vs, e, k2, k3, k4, k5⟩ := hnew ι hg0
      exact ⟨k1, vs, e, k2, k3, k4, fun i hi' aa y ha hy => by simp only [if_true]; exact k5 i hi' aa y ha hy⟩
  · rcases hget id' o' ho' with ⟨hj, ho'⟩ | ⟨rfl, rfl⟩
    · simp only [if_neg hj] at hx
      exact ⟨hS2 id' o' i x hj ho' hi hx, (h.ownS id' o' i x ho' hi hx).2⟩
    · simp only [if_true] at hx
      have := hg i hi x hx
      exact ⟨this.1, this.2.1⟩
  · rcases hget id1 o1 h1 with ⟨hj1, q1⟩ | ⟨h1e, rfl⟩ <;> rcases hget id2 o2 h2 with ⟨hj2, q2⟩ | ⟨h2e, rfl⟩
    · simp only [if_neg hj1] at hx1
      simp only [if_neg hj2] at hx2
      exact h.inj id1 o1 i1 id2 o2 i2 x q1 hi1 hx1 q2 hi2 hx2
    · subst h2e
      simp only [if_neg hj1] at hx1
      simp only [if_true] at hx2
      exact absurd hx1 ((hg i2 hi2 x hx2).2.2.1 id1 o1 i1 hj1 q1 hi1)
    · subst h1e
      simp only [if_neg hj2] at hx2
      simp only [if_true] at hx1
      exact absurd hx2 ((hg i1 hi1 x hx1).2.2.1 id2 o2 i2 hj2 q2 hi2)
    · subst h2e; subst h1e
      simp only [if_true] at hx1 hx2
      exact ⟨rfl, (hg i1 hi1 x hx1).2.2.2 i2 hi2 hx2⟩

theorem OK.setBox (h : OK G an B0 st ρ σ tmps) {w' : World} {S' : Nat → Prop} {id b : Nat} {cs cs' : List AV} {ow ow' : List Nat} {g' : Nat → Option Nat}
    (hid : σ[id]? = some (.box cs ow)) (hb : st.ι[id]? = some b) (ht : Turn st.w w' b) (hnew : ∀ ι', Grow st.w st.ext st.ι w' st.ext ι' → ObjOK w' st.ext ι' G (fun _ => g') σ id b (.box cs' ow'))
    (hS1 : ∀ x ∈ st.ι, S' x) (hS2 : ∀ id' o i x, id' ≠ id → σ[id']? = some o → i ∈ o.ows → st.SL id' i = some x → S' x) (hS3 : ∀ x, S' x → x < st.w.heap.size ∧ ¬ B0 x)
    (hS4 : ∀ p x, Has st.L ρ p x → ¬ S' x)
    (hg : ∀ i ∈ ow', ∀ x, g' i = some x → S' x ∧ x ∉ st.ι ∧ (∀ id' o i', id' ≠ id → σ[id']? = some o → i' ∈ o.ows → st.SL id' i' ≠ some x) ∧ ∀ j ∈ ow', g' j = some x → i = j) :
    OK G an B0 { st with w := w', S := S', SL := fun i => if i = id then g' else st.SL i } ρ (σ.set id (.box cs' ow')) tmps ∧
      Step B0 st { st with w := w', S := S', SL := fun i => if i = id then g' else st.SL i } := by
  obtain ⟨hg0, hsr⟩ := h.sr.setBox hid hb ht hnew hS1 hS2 (fun x hx => (hS3 x hx).1) hg
  have hSb : st.S b := h.sr.inS b (List.mem_of_getElem? hb)
  refine ⟨⟨h.size, fun t => ?_, h.fits, h.lptr, fun p x hp => ?_, h.inj, fun x hx => by simpa [ht.size] using h.base x hx, fun x hx => (hS3 x hx).2, hsr, h.larr⟩, ⟨hg0, by simp [ht.size], fun x hx => ⟨ht.blk x ?_, rfl⟩, ht.os, ht.tape, ht.output⟩⟩
  · exact h.slotTurn hg0 ht (fun _ _ => rfl) fun p _ hp => (h.priv p b hp).2.2 hSb
  · have := h.priv p x hp
    exact ⟨this.1, by simpa [ht.size] using this.2.1, hS4 p x hp⟩
  · rintro rfl; exact h.out _ hSb hx

theorem has_clear_loc {L : Lay} {ρ : Env} {s : Nat} {cs : List AV} {ow : List Nat} {off : Nat} (hs : ρ s = .loc cs ow) {p : Place} {b : Nat} (h : Has L (upd ρ s (.loc cs (ow.filter (· != off)))) p b) : Has L ρ p b ∧ p ≠ .own s off := by
  cases p with
  | box t =>
    by_cases ht : t = s
    · subst ht; simp only [Has, upd_same] at h ⊢; rw [hs]; exact ⟨⟨rfl, h.2⟩, by simp⟩
    · exact ⟨by simpa only [Has, upd_other _ _ _ ht] using h, by simp⟩
  | own t j =>
    by_cases ht : t = s
    · subst ht
      simp only [Has, upd_same, Slot.ows, List.mem_filter] at h
      refine ⟨⟨by rw [hs]; exact h.1.1, h.2⟩, ?_⟩
      intro e; cases e
      simp at h
    · exact ⟨by simpa only [Has, upd_other _ _ _ ht] using h, by intro e; cases e; exact ht rfl⟩

theorem sound_load {t : TypeId} {x : Operand} (ho : o.op = .load t x) (h : OK G E.an B0 st ρ σ a.tmps) (hs : Sub ρm ρ)
    (hc : core G E o ρm σ = some (ups, σ')) (hf : Fit E.an ups) : OpGoal G E.an B0 st a o (apply ups ρ) σ' := by
  simp only [core, ho, Option.bind_eq_bind, Option.bind_eq_some_iff] at hc
  split at hc
  · simp at hc
  · rename_i hty
    have hty : tyOk G.P t = true := eq_true_of_ne_false hty
    rw [Option.bind_eq_some_iff] at hc
    obtain ⟨p, hp, hc⟩ := hc
    have run : ∀ b off c, a.eval x = .pointer (some ⟨b, off, none⟩) → (loadVar t ⟨b, off, none⟩).run G.P st.w = .ok c st.w → (execOp a.eval o).run G.P st.w = .ok (.value c) st.w := by
      intro b off c he hl
      simp [execOp, ho, he, Instr.loadAt, Instr.sureAddr, hl]
    cases p with
    | im cs =>
      simp only [Option.bind_eq_some_iff] at hc
      obtain ⟨v, hv, hc⟩ := hc
      simp at hc; obtain ⟨rfl, rfl⟩ := hc
      obtain ⟨b, off, vs, he, hr, h1c, hcell⟩ := rep_iptr_inv (ptrOf_im h rfl hs hp)
      obtain ⟨c, hl, hrep, _⟩ := loadVar_run (P := G.P) st.w b off hty hr h1c (fun i x hx => (hcell i x hx).1) 0 hv
      exact goal_plain h hf (run _ _ _ he hl) hrep
    | loc s off =>
      obtain ⟨he, hl0⟩ := ptrOf_loc h rfl hs hp
      dsimp only at hc
      split at hc
      · rename_i cs ow hρ
        have hρ' := hs.val hρ (by simp)
        simp only [Option.bind_eq_some_iff] at hc
        obtain ⟨v, hv, d, hd, hc⟩ := hc
        have hsl := h.slot s
        rw [hρ'] at hsl
        obtain ⟨k1, k2, vs, e, k3, k4, k5, k6⟩ := hsl
        obtain ⟨c, hl, hrep, hcells⟩ := loadVar_run (P := G.P) st.w (st.L.β s) 0 hty k4 k5 (fun i x hx => by rw [cell_row k3, Nat.zero_add]; simpa using hx) off hv
        rw [Nat.zero_add] at hl
        have hrun := run _ _ _ he hl
        split at hc
        · rename_i hcond
          obtain ⟨c1, c2, c3⟩ := hcond
          simp at hc; obtain ⟨rfl, rfl⟩ := hc
          have hoff : off ∈ ow := by simpa using c2
          have h1 := h.clear (x := s) (s := .loc cs (ow.filter (· != off))) (.inr ⟨cs, ow, _, hρ', rfl, fun i hi => (List.mem_filter.1 hi).1⟩)
          have hplace : ∀ b, st.L.γ s off = some b → Has st.L ρ (.own s off) b := fun b hb => ⟨by rw [hρ']; exact hoff, hb⟩
          have := goal_put (g := fun _ => st.L.γ s off) (v := v) (ow := [0]) (o := o) h1 (fun u hu => hf u (by simp; right; simpa using hu)) hrun hrep (fun i hi aa xx ha hx => ?_) (fun i _ b hb => h.priv _ _ (hplace b hb)) (fun i _ b hb p hpp => ?_)
            (fun i hi j hj b _ _ => (List.mem_singleton.1 hi).trans (List.mem_singleton.1 hj).symm)
          · simpa [apply] using this
          · simp at hi; subst hi
            obtain ⟨q1, q2⟩ := hcells aa xx c3 ha hx
            exact k6 off hoff aa xx q1 (by simpa using q2)
          · obtain ⟨q1, q2⟩ := has_clear_loc hρ' hpp
            exact q2 (h.inj _ _ _ q1 (hplace b hb))
        · simp at hc; obtain ⟨rfl, rfl⟩ := hc
          exact goal_plain h hf hrun hrep
      · simp at hc
    | sh id off =>
      obtain ⟨b, hb, he⟩ := rep_ptr_inv (ptrOf_sh h rfl hs hp)
      dsimp only at hc
      split at hc
      · rename_i cs ow hσ
        simp only [Option.bind_eq_some_iff] at hc
        obtain ⟨v, hv, d, hd, hc⟩ := hc
        obtain ⟨k2, vs, e, k3, k4, k5, k6⟩ := h.sr.obj id _ b hσ hb
        obtain ⟨c, hl, hrep, hcells⟩ := loadVar_run (P := G.P) st.w b 0 hty k4 k5 (fun i x hx => by rw [cell_row k3, Nat.zero_add]; simpa using hx) off hv
        rw [Nat.zero_add] at hl
        have hrun := run _ _ _ he hl
        split at hc
        · rename_i hcond
          obtain ⟨c1, c2, c3⟩ := hcond
          simp at hc; obtain ⟨rfl, rfl⟩ := hc
          have hoff : off ∈ (AObj.box cs ow).ows := by simpa [AObj.ows] using c2
          obtain ⟨hok, hst⟩ := h.setBox (S' := fun x => st.S x ∧ st.SL id off ≠ some x) (cs' := cs) (ow' := ow.filter (· != off)) (g' := st.SL id) hσ hb (Turn.refl _ _)
            (fun ι' hg => ⟨k2, vs, e, k3, k4.mono hg, k5, fun i hi => k6 i (List.mem_filter.1 hi).1⟩)
            (fun x hx => ⟨h.sr.inS x hx, fun hx' => (h.sr.ownS id _ off x hσ hoff hx').2 hx⟩)
            (fun id' o' i x hi ho' hi' hx => ⟨(h.sr.ownS id' o' i x ho' hi' hx).1, fun hx' => hi (h.sr.inj id' o' i id _ off x ho' hi' hx hσ hoff hx').1⟩)
            (fun x hx => ⟨h.sr.small x hx.1, h.out x hx.1⟩) (fun p x hpp hx => (h.priv p x hpp).2.2 hx.1)
            (fun i hi x hx => by
              have hi1 := (List.mem_filter.1 hi).1
              have hi2 : i ≠ off := by have := (List.mem_filter.1 hi).2; simpa using this
              refine ⟨⟨(h.sr.ownS id _ i x hσ hi1 hx).1, fun hx' => hi2 (h.sr.inj id _ i id _ off x hσ hi1 hx hσ hoff hx').2⟩, (h.sr.ownS id _ i x hσ hi1 hx).2, fun id' o' i' hi' ho' hi'' hx' => hi' (h.sr.inj id' o' i' id _ i x ho' hi'' hx' hσ hi1 hx).1, fun j hj hx' => ?_⟩
              exact (h.sr.inj id _ i id _ j x hσ hi1 hx hσ (List.mem_filter.1 hj).1 hx').2)
          have hgoal := goal_put (g := fun _ => st.SL id off) (v := v) (ow := [0]) (o := o) hok hf hrun hrep (fun i hi aa xx ha hx => by
              simp at hi; subst hi
              obtain ⟨q1, q2⟩ := hcells aa xx c3 ha hx
              exact k6 off hoff aa xx q1 (by simpa using q2))
            (fun i _ x hx => by
              have := h.sr.ownS id _ off x hσ hoff hx
              exact ⟨h.out x this.1, h.sr.small x this.1, fun hS => hS.2 hx⟩)
            (fun i _ x hx p hpp => (h.priv p x hpp).2.2 (h.sr.ownS id _ off x hσ hoff hx).1)
            (fun i hi j hj b _ _ => (List.mem_singleton.1 hi).trans (List.mem_singleton.1 hj).symm)
          obtain ⟨v', st', g1, g2, g3⟩ := hgoal
          exact ⟨v', st', g1, g2, hst.trans g3⟩
        · simp at hc; obtain ⟨rfl, rfl⟩ := hc
          exact goal_plain h hf hrun hrep
      · simp at hc

/-- What an operand owns. -/
theorem own_all {t : TypeId} {x : Operand} {v : AV} (h : OK G an B0 st ρ σ a.tmps) (hs : Sub ρm ρ) (hv : opv G ρm t x = some v) :
    OK G an B0 st (apply (clr ρm x) ρ) σ a.tmps ∧ (∀ s, (ρ s).isLoc = true → apply (clr ρm x) ρ s = ρ s) ∧ ∃ g : Nat → Option Nat, (∀ i ∈ opo ρm x, ∀ aa xx, v.cells[i]? = some aa → (a.eval x).cells[i]? = some xx → OwnC st.w st.ext aa xx (g i)) ∧
      (∀ i ∈ opo ρm x, ∀ b, g i = some b → ¬ B0 b ∧ b < st.w.heap.size ∧ ¬ st.S b) ∧
      (∀ i ∈ opo ρm x, ∀ b, g i = some b → ∀ p, ¬ Has st.L (apply (clr ρm x) ρ) p b) ∧ (∀ i ∈ opo ρm x, ∀ j ∈ opo ρm x, ∀ b, g i = some b → g j = some b → i = j) := by
  cases x with
  | tmp s =>
    simp only [opv] at hv
    split at hv
    · rename_i v' ow hρ
      simp at hv; subst hv
      have hρ' := hs.val hρ (by simp)
      have hc : clr ρm (.tmp s) = [(s, .val v' [])] := by simp [clr, hρ]
      have hoo : opo ρm (.tmp s) = ow := by simp [opo, hρ]
      rw [hoo, hc]
      have hsl := h.slot s
      rw [hρ'] at hsl
      have hplace : ∀ i ∈ ow, ∀ b, st.L.γ s i = some b → Has st.L ρ (.own s i) b := fun i hi b hb => ⟨by rw [hρ']; exact hi, hb⟩
      refine ⟨h.clear (.inl ⟨_, ow, [], hρ', rfl, fun _ hi => by cases hi⟩), fun s' hl => ?_, st.L.γ s, fun i hi aa xx ha hx => hsl.2 i hi aa xx ha (by simpa [Act.eval] using hx), fun i hi b hb => h.priv _ _ (hplace i hi b hb), fun i hi b hb p hp => ?_, fun i hi j hj b hb hb' => ?_⟩
      · have : s' ≠ s := by rintro rfl; rw [hρ'] at hl; cases hl
        simp [apply, upd_other _ _ _ this]
      · obtain ⟨k1, k2⟩ := has_clear hρ' hp
        exact k2 i (h.inj _ _ _ k1 (hplace i hi b hb))
      · have := h.inj _ _ _ (hplace i hi b hb) (hplace j hj b hb')
        cases this; rfl
    · simp at hv
  | const c =>
    refine ⟨by simpa [clr, apply] using h, fun _ _ => by simp [clr, apply], fun _ => none, fun i hi aa xx ha hx => ?_, fun _ _ b hb => (by cases hb), fun _ _ b hb => (by cases hb), fun _ _ _ _ b hb => (by cases hb)⟩
    unfold opo at hi
    split at hi
    · rename_i h'; cases h'
    · rename_i h'
      injection h' with h'
      subst h'
      simp at hi; subst hi
      simp [Act.eval, Value.cells] at hx
      subst hx
      intro p n cap hxx
      cases hxx; rfl
    · cases hi
  | global g => exact ⟨by simpa [clr, apply] using h, fun _ _ => by simp [clr, apply], fun _ => none, fun i hi => (by simp [opo] at hi), fun i hi => (by simp [opo] at hi), fun i hi => (by simp [opo] at hi), fun i hi => (by simp [opo] at hi)⟩
  | func f => exact ⟨by simpa [clr, apply] using h, fun _ _ => by simp [clr, apply], fun _ => none, fun i hi => (by simp [opo] at hi), fun i hi => (by simp [opo] at hi), fun i hi => (by simp [opo] at hi), fun i hi => (by simp [opo] at hi)⟩

end Go.AI
