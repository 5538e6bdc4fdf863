/- The abstract machine: slices in private rows. -/
import Derived.Test.YtdpamhejneicdaaGreatDoorZAI13
namespace Go.AI
set_option linter.unusedVariables false
set_option linter.unusedSimpArgs false
open Go

variable {G : Prg} {an : Ann} {E : EE} {B0 : Nat → Prop} {st : St} {ρ ρm : Env} {σ σ' : Sig} {ups : List (Nat × Slot)} {a : Act} {o : Oper} {tmps : Array Value} {ops : Array Oper}

theorem arrOf_spec (hs : Sub ρm ρ) {x : Operand} {s sz : Nat} {es : List AV} (h : arrOf ρm x = some (s, sz, es)) : x = .tmp s ∧ ρ s = .arr sz es := by
  unfold arrOf at h
  split at h
  · split at h
    · rename_i hρ
      simp at h; obtain ⟨rfl, rfl, rfl⟩ := h
      exact ⟨rfl, hs.val hρ (by simp)⟩
    · simp at h
  · simp at h

theorem larrOf_spec (hs : Sub ρm ρ) {x : Operand} {s n : Nat} (h : larrOf ρm x = some (s, n)) : ∃ t, x = .tmp t ∧ ρ t = .larr s n := by
  unfold larrOf at h
  split at h
  · split at h
    · rename_i hρ
      simp at h; obtain ⟨rfl, rfl⟩ := h
      exact ⟨_, rfl, hs.val hρ (by simp)⟩
    · simp at h
  · simp at h

/-- An alias of a private row is made. -/
theorem goal_larr {s n sz : Nat} {es : List AV} (h : OK G an B0 st ρ σ a.tmps) (hf : Fit an (puts o.dst (.larr s n))) (hl : ρ s = .arr sz es) (hn : n ≤ es.length)
    (hr : (execOp a.eval o).run G.P st.w = .ok (.value (.slice (some ⟨st.L.β s, 0, none⟩) n (st.L.κ s))) st.w) : OpGoal G an B0 st a o (apply (puts o.dst (.larr s n)) ρ) σ := by
  cases hd : o.dst with
  | none =>
    refine ⟨_, st, .inl hr, ?_, Step.refl _ _⟩
    simpa [puts, apply, hd, Act.put] using h
  | some d =>
    obtain ⟨h1, h2⟩ := hf (d, .larr s n) (by simp [puts, hd])
    have hdl : an.loc.contains d = false := by simp only [fitsSlot, Bool.and_eq_true] at h2; simpa using h2.2
    have hnl : (ρ d).isLoc = false := by
      by_cases hn : ρ d = .none
      · rw [hn]; rfl
      · rcases fits_loc (h.fits d hn) with k | k
        · rw [k]; exact hdl
        · exact absurd k hn
    have hsd : s ≠ d := by rintro rfl; rw [hl] at hnl; cases hnl
    refine ⟨_, st, .inl hr, ?_, Step.refl _ _⟩
    simp only [puts, apply, hd, put_tmps, List.foldl]
    refine h.relay (st' := st) h1 h2 (fun t _ => h.slot t) rfl (fun t off _ ht => ?_) (fun _ _ e => by cases e) (fun t m _ ht => ?_) (fun s' m e => by cases e; exact ⟨hsd, sz, es, hl, hn⟩) (fun _ _ => rfl) (fun _ _ _ => rfl)
      (fun p b hp hh => ?_) (fun p b _ hh => (h.priv p b hh).2) h.base h.out h.sr
    · have := h.lptr t d off ht
      rw [hnl] at this; cases this
    · obtain ⟨sz', es', h4, _⟩ := h.larr t d m ht
      rw [h4] at hnl; cases hnl
    · exfalso
      cases p with
      | box t => simp only [Place.slot] at hp; subst hp; simp [Has, upd_same, Slot.isLoc] at hh
      | own t i => simp only [Place.slot] at hp; subst hp; simp [Has, upd_same, Slot.ows] at hh

/-- What stands in a private row. -/
theorem arr_slot (h : OK G an B0 st ρ σ tmps) {s sz : Nat} {es : List AV} (hs : ρ s = .arr sz es) :
    tmps.getD s undef = .slice (some ⟨st.L.β s, 0, none⟩) es.length (st.L.κ s) ∧ es.length ≤ st.L.κ s ∧ st.ext (st.L.β s) = 0 ∧ (∀ e ∈ es, e.cells.length = sz) ∧
      ∃ vs e, st.w.heap[st.L.β s]? = some (.cells vs e (0, 0)) ∧ st.L.κ s * sz ≤ vs.size ∧ Reps st.w st.ext st.ι (es.flatMap AV.cells) (vs.toList.take (es.length * sz)) ∧ ∀ x ∈ vs.toList, x.oneCell' = true := by
  have := h.slot s
  rw [hs] at this
  exact this

theorem larr_slot (h : OK G an B0 st ρ σ tmps) {t s n : Nat} (hs : ρ t = .larr s n) : tmps.getD t undef = .slice (some ⟨st.L.β s, 0, none⟩) n (st.L.κ s) ∧ ∃ sz es, ρ s = .arr sz es ∧ n ≤ es.length := by
  have := h.slot t
  rw [hs] at this
  exact ⟨this, h.larr t s n hs⟩

theorem sound_arr_move {x : Operand} (ho : o.op = .move x ∨ o.op = .assign x) (h : OK G E.an B0 st ρ σ a.tmps) (hs : Sub ρm ρ) (hm : ∀ t ∈ rdOf E.an ops o, ρm t = ρ t) (hc : arrOp G E o ρm = some (some ups)) (hf : Fit E.an ups) :
    OpGoal G E.an B0 st a o (apply ups ρ) σ := by
  have hrun : (execOp a.eval o).run G.P st.w = .ok (.value (a.eval x)) st.w := by rcases ho with ho | ho <;> simp [execOp, ho]
  have hc' : (match arrOf ρm x with
    | some (s, sz, es) => match o.dst with
      | some d => if E.an.loc.contains d then (if s ≠ d ∧ noInto E.an ρm d = true ∧ noInto E.an ρm s = true then some (some [(s, .none), (d, .arr sz es)]) else some none) else some (some [(d, .larr s es.length)])
      | none => some none
    | none => match larrOf ρm x with
      | some (s, h) => some (some (puts o.dst (.larr s h)))
      | none => none) = some (some ups) := by
    rcases ho with ho | ho <;> (simp only [arrOp, ho] at hc; exact hc)
  split at hc'
  · rename_i s sz es harr
    obtain ⟨rfl, hρ⟩ := arrOf_spec hs harr
    obtain ⟨k1, k2, k3, k4, vs, e, k5, k6, k7, k8⟩ := arr_slot h hρ
    split at hc'
    · rename_i d hd
      split at hc'
      · rename_i hdl
        split at hc'
        · rename_i hcond
          obtain ⟨c1, c2, c3⟩ := hcond
          simp at hc'; subst hc'
          have hmd : ∀ q, (q = d ∨ q = s) → ∀ p ∈ E.an.into, p.2 = q → ρm p.1 = ρ p.1 := by
            intro q hq p hp hpq
            refine hm p.1 ?_
            unfold rdOf
            rw [List.mem_append, List.mem_append]
            refine .inl (.inr ?_)
            have hdl' : E.an.loc.contains d = true := hdl
            rcases ho with ho | ho <;> (simp only [ho, hd, hdl', if_true, List.mem_map, List.mem_filter]; refine ⟨p, ⟨hp, ?_⟩, rfl⟩; rcases hq with rfl | rfl <;> simp [hpq])
          have n1 := noInto_spec h (hmd d (.inl rfl)) c2
          have n2 := noInto_spec h (hmd s (.inr rfl)) c3
          obtain ⟨f1, f2⟩ := hf (d, .arr sz es) (by simp)
          have hbox : Has st.L ρ (.box s) (st.L.β s) := ⟨by rw [hρ]; rfl, rfl⟩
          have hpb := h.priv _ _ hbox
          -- the row leaves its slot
          have h0 : OK G E.an B0 st (upd ρ s .none) σ a.tmps := by
            have hhas : ∀ p b, Has st.L (upd ρ s .none) p b → Has st.L ρ p b ∧ p.slot ≠ s := by
              intro p b hp
              cases p with
              | box t =>
                by_cases ht : t = s
                · subst ht; simp [Has, upd_same, Slot.isLoc] at hp
                · exact ⟨by simpa only [Has, upd_other _ _ _ ht] using hp, ht⟩
              | own t i =>
                by_cases ht : t = s
                · subst ht; simp [Has, upd_same, Slot.ows] at hp
                · exact ⟨by simpa only [Has, upd_other _ _ _ ht] using hp, ht⟩
            refine ⟨h.size, fun t => ?_, fun t => ?_, fun t s' off ht => ?_, fun p b hp => h.priv p b (hhas p b hp).1, fun p q b hp hq => h.inj p q b (hhas p b hp).1 (hhas q b hq).1, h.base, h.out, h.sr, fun t s' n ht => ?_⟩
            · by_cases ht : t = s
              · subst ht; rw [upd_same]; trivial
              · rw [upd_other _ _ _ ht]; exact h.slot t
            · by_cases ht : t = s
              · subst ht; rw [upd_same]; intro h'; exact absurd rfl h'
              · rw [upd_other _ _ _ ht]; exact h.fits t
            · have hne : t ≠ s := by rintro rfl; rw [upd_same] at ht; cases ht
              rw [upd_other _ _ _ hne] at ht
              have hs' : s' ≠ s := by rintro rfl; exact n2.1 t off ht
              rw [upd_other _ _ _ hs']; exact h.lptr t s' off ht
            · have hne : t ≠ s := by rintro rfl; rw [upd_same] at ht; cases ht
              rw [upd_other _ _ _ hne] at ht
              have hs' : s' ≠ s := by rintro rfl; exact n2.2 t n ht
              rw [upd_other _ _ _ hs']; exact h.larr t s' n ht
          have hno : ∀ p b, Has st.L (upd ρ s .none) p b → b ≠ st.L.β s := by
            intro p b hp hb
            subst hb
            have hp' : Has st.L ρ p (st.L.β s) ∧ p.slot ≠ s := by
              cases p with
              | box t =>
                by_cases ht : t = s
                · subst ht; simp [Has, upd_same, Slot.isLoc] at hp
                · exact ⟨by simpa only [Has, upd_other _ _ _ ht] using hp, ht⟩
              | own t i =>
                by_cases ht : t = s
                · subst ht; simp [Has, upd_same, Slot.ows] at hp
                · exact ⟨by simpa only [Has, upd_other _ _ _ ht] using hp, ht⟩
            have := h.inj _ _ _ hp'.1 hbox
            subst this
            exact hp'.2 rfl
          let st' : St := { st with L := { β := fun t => if t = d then st.L.β s else st.L.β t, κ := fun t => if t = d then st.L.κ s else st.L.κ t, γ := fun t i => if t = d then none else st.L.γ t i } }
          have heval : a.eval (.tmp s) = .slice (some ⟨st.L.β s, 0, none⟩) es.length (st.L.κ s) := by simpa [Act.eval] using k1
          have hd0 : ∀ (t : Nat), t ≠ d → (∀ off, upd ρ s .none t ≠ .lptr d off) ∧ ∀ n, upd ρ s .none t ≠ .larr d n := by
            intro t _
            by_cases ht : t = s
            · subst ht; rw [upd_same]; exact ⟨by simp, by simp⟩
            · rw [upd_other _ _ _ ht]; exact ⟨n1.1 t, n1.2 t⟩
          refine ⟨a.eval (.tmp s), st', .inl hrun, ?_, ⟨Grow.refl _ _ _, Nat.le_refl _, fun _ _ => ⟨rfl, rfl⟩, rfl, rfl, rfl⟩⟩
          have e1 : apply [(s, Slot.none), (d, .arr sz es)] ρ = upd (upd ρ s .none) d (.arr sz es) := rfl
          rw [e1, hd, put_tmps]
          refine h0.relay (st' := st') f1 f2 (fun t ht => ?_) ?_ (fun t off ht hl => absurd hl ((hd0 t ht).1 off)) (fun _ _ e => by cases e) (fun t n ht hl => absurd hl ((hd0 t ht).2 n)) (fun _ _ e => by cases e)
            (fun t ht => by simp [st', ht]) (fun t ht i => by simp [st', ht]) (fun p b hp hh => ?_) (fun p b _ hh => (h0.priv p b hh).2) h.base h.out h.sr
          · refine (h0.slot t).lay (fun _ => by simp [st', ht]) (fun s' off e => ?_) (fun i _ => by simp [st', ht]) (fun _ => by simp [st', ht]) (fun s' n e => ?_)
            · have : s' ≠ d := by rintro rfl; exact (hd0 t ht).1 off e
              simp [st', this]
            · have : s' ≠ d := by rintro rfl; exact (hd0 t ht).2 n e
              simp [st', this]
          · have b1 : st'.L.β d = st.L.β s := by simp [st']
            have b2 : st'.L.κ d = st.L.κ s := by simp [st']
            refine ⟨by rw [b1, b2]; exact heval, by rw [b2]; exact k2, by rw [b1]; exact k3, k4, vs, e, by rw [b1]; exact k5, by rw [b2]; exact k6, k7, k8⟩
          · have hpp : p = .box d ∧ b = st.L.β s := by
              cases p with
              | box t => simp only [Place.slot] at hp; subst hp; have := hh.2; simp [st'] at this; exact ⟨rfl, this.symm⟩
              | own t i => simp only [Place.slot] at hp; subst hp; have := hh.2; simp [st'] at this
            obtain ⟨rfl, rfl⟩ := hpp
            refine ⟨hpb.1, hpb.2.1, hpb.2.2, fun q hq hh' => hno q _ hh' rfl, fun q hq hh' => ?_⟩
            cases q with
            | box t => simp only [Place.slot] at hq; subst hq; rfl
            | own t i => simp only [Place.slot] at hq; subst hq; have := hh'.2; simp [st'] at this
        · simp at hc'
      · simp at hc'; subst hc'
        have hputs : [(d, Slot.larr s es.length)] = puts o.dst (.larr s es.length) := by rw [hd]; rfl
        rw [hputs] at hf ⊢
        exact goal_larr h hf hρ (Nat.le_refl _) (by rw [hrun]; simp only [Act.eval]; rw [k1])
    · simp at hc'
  · split at hc'
    · rename_i s n hl
      simp at hc'; subst hc'
      obtain ⟨t, rfl, hρ⟩ := larrOf_spec hs hl
      obtain ⟨k1, sz, es, k2, k3⟩ := larr_slot h hρ
      exact goal_larr h hf k2 k3 (by rw [hrun]; simp only [Act.eval]; rw [k1])
    · simp at hc'

end Go.AI
