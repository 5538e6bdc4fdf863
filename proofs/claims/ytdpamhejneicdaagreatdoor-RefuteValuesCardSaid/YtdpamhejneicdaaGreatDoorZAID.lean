/- The abstract machine: slices in private rows: laid, appended to. -/
import Derived.Test.YtdpamhejneicdaaGreatDoorZAIC
namespace Go.AI
set_option linter.unusedVariables false
set_option linter.unusedSimpArgs false
open Go

variable {G : Prg} {an : Ann} {E : EE} {B0 : Nat → Prop} {st : St} {ρ ρ0 ρm : Env} {σ σ' : Sig} {ups : List (Nat × Slot)} {a : Act} {o : Oper} {tmps : Array Value} {ops : Array Oper}

/-- A slice in a private row is put into a slot. -/
theorem goal_arr {st1 : St} {d b κ sz : Nat} {es : List AV} {c : Value} {vs : Array Value} {e : TypeId} (h : OK G an B0 st1 ρ0 σ a.tmps) (hst : Step B0 st st1) (hd : o.dst = some d) (hf : Fit an [(d, .arr sz es)])
    (hno : (∀ t off, ρ0 t ≠ .lptr d off) ∧ ∀ t n, ρ0 t ≠ .larr d n) (hr : (execOp a.eval o).run G.P st.w = .ok (.value c) st1.w)
    (hb : ¬ B0 b ∧ b < st1.w.heap.size ∧ ¬ st1.S b) (hn : ∀ p, ¬ Has st1.L ρ0 p b)
    (k1 : c = .slice (some ⟨b, 0, none⟩) es.length κ) (k2 : es.length ≤ κ) (k3 : st1.ext b = 0) (k4 : ∀ x ∈ es, x.cells.length = sz) (k5 : st1.w.heap[b]? = some (.cells vs e (0, 0))) (k6 : κ * sz ≤ vs.size)
    (k7 : Reps st1.w st1.ext st1.ι (es.flatMap AV.cells) (vs.toList.take (es.length * sz))) (k8 : ∀ x ∈ vs.toList, x.oneCell' = true) :
    OpGoal G an B0 st a o (upd ρ0 d (.arr sz es)) σ := by
  obtain ⟨f1, f2⟩ := hf (d, .arr sz es) (by simp)
  let st' : St := { st1 with L := { β := fun t => if t = d then b else st1.L.β t, κ := fun t => if t = d then κ else st1.L.κ t, γ := fun t i => if t = d then none else st1.L.γ t i } }
  refine ⟨c, st', .inl hr, ?_, ⟨hst.grow, hst.size, hst.blk, hst.os, hst.tape, hst.output⟩⟩
  rw [hd, put_tmps]
  refine h.relay (st' := st') f1 f2 (fun t ht => ?_) ?_ (fun t off ht hl => absurd hl (hno.1 t off)) (fun _ _ e => by cases e) (fun t n ht hl => absurd hl (hno.2 t n)) (fun _ _ e => by cases e)
    (fun t ht => by simp [st', ht]) (fun t ht i => by simp [st', ht]) (fun p x hp hh => ?_) (fun p x _ hh => (h.priv p x hh).2) h.base h.out h.sr
  · refine (h.slot t).lay (fun _ => by simp [st', ht]) (fun s' off e => ?_) (fun i _ => by simp [st', ht]) (fun _ => by simp [st', ht]) (fun s' n e => ?_)
    · have : s' ≠ d := by rintro rfl; exact hno.1 t off e
      simp [st', this]
    · have : s' ≠ d := by rintro rfl; exact hno.2 t n e
      simp [st', this]
  · have b1 : st'.L.β d = b := by simp [st']
    have b2 : st'.L.κ d = κ := by simp [st']
    exact ⟨by rw [b1, b2]; exact k1, by rw [b2]; exact k2, by rw [b1]; exact k3, k4, vs, e, by rw [b1]; exact k5, by rw [b2]; exact k6, k7, k8⟩
  · have hpp : p = .box d ∧ x = b := by
      cases p with
      | box t => simp only [Place.slot] at hp; subst hp; have := hh.2; simp [st'] at this; exact ⟨rfl, this.symm⟩
      | own t i => simp only [Place.slot] at hp; subst hp; have := hh.2; simp [st'] at this
    obtain ⟨rfl, rfl⟩ := hpp
    refine ⟨hb.1, hb.2.1, hb.2.2, fun q hq hh' => hn q hh', fun q hq hh' => ?_⟩
    cases q with
    | box t => simp only [Place.slot] at hq; subst hq; rfl
    | own t i => simp only [Place.slot] at hq; subst hq; have := hh'.2; simp [st'] at this

theorem sound_arr_build {t : TypeId} {len : Nat} {parts : Array (Nat × Operand)} (ho : o.op = .buildSlice t len parts) (h : OK G E.an B0 st ρ σ a.tmps) (hs : Sub ρm ρ) (hm : ∀ t ∈ rdOf E.an ops o, ρm t = ρ t)
    (hc : arrOp G E o ρm = some (some ups)) (hf : Fit E.an ups) : OpGoal G E.an B0 st a o (apply ups ρ) σ := by
  simp only [arrOp, ho] at hc
  split at hc
  · rename_i d hd
    split at hc
    · rename_i hdl
      simp only [Option.some.injEq, Option.bind_eq_bind] at hc
      split at hc
      · rename_i e hu
        simp only [Option.bind_eq_some_iff] at hc
        obtain ⟨zc, hzc, zv, hzv, hc⟩ := hc
        split at hc
        · simp at hc
        · rename_i hcond
          simp only [not_or, Decidable.not_not] at hcond
          obtain ⟨c1, c2, c3, c4, c5⟩ := hcond
          have c5 : noInto E.an ρm d = true := eq_true_of_ne_false c5
          rw [Option.bind_eq_some_iff] at hc
          obtain ⟨es, hfold, hc⟩ := hc
          simp only [Option.some.injEq] at hc; subst hc
          have hmd : ∀ p ∈ E.an.into, p.2 = d → ρm p.1 = ρ p.1 := by
            intro p hp hpq
            refine hm p.1 ?_
            unfold rdOf
            rw [List.mem_append, List.mem_append]
            refine .inl (.inr ?_)
            simp only [ho, hd, List.mem_map, List.mem_filter]
            exact ⟨p, ⟨hp, by simp [hpq]⟩, rfl⟩
          have hno := noInto_spec h hmd c5
          obtain ⟨ie, z, hie, hz, hzt⟩ := zeroC_info hzc
          obtain ⟨r1, r2, r3⟩ := joinC_rep (w := st.w) (ext := st.ext) (ι := st.ι) hzt hzv
          obtain ⟨z1, z2⟩ := r1.one r2
          have hcell : G.P.cellsOf e = ie.size := by simp [Program.cellsOf, hie]
          rw [hcell] at c1 c2 c3 hf hfold ⊢
          have hzs : z.cells.size = ie.size := by rw [← c1, z2.length]; simp
          have hpos : 0 < ie.size := Nat.pos_of_ne_zero c2
          obtain ⟨cells, hfill, hR⟩ := fill_fold (place := fun i => some (i * ie.size, ie.size)) (ev := a.eval)
            (fun (acc : List AV) cells => Reps st.w st.ext st.ι (acc.flatMap AV.cells) cells ∧ (∀ x ∈ cells, x.oneCell' = true) ∧ (∀ x ∈ acc, x.cells.length = ie.size) ∧ acc.length = len) _ parts.toList
            (fun c p c' cells hp hstep hR => by
              obtain ⟨fi, x⟩ := p
              simp only [Option.bind_eq_some_iff] at hstep
              obtain ⟨v, hv, hstep⟩ := hstep
              split at hstep
              · rename_i hcond
                obtain ⟨d1, d2, d3⟩ := hcond
                simp at hstep; subst hstep
                obtain ⟨o1, o2⟩ := (opv_rep h rfl hs hv).one d2
                have hl := o2.length
                have hlen' := hR.1.length
                rw [flat_len hR.2.2.1, hR.2.2.2] at hlen'
                refine ⟨fi * ie.size, ie.size, rfl, by rw [← d1, hl]; simp, ?_, ?_, ?_, ?_, ?_⟩
                · rw [← hlen']
                  have : (fi + 1) * ie.size ≤ len * ie.size := Nat.mul_le_mul_right _ d3
                  rw [Nat.add_mul, Nat.one_mul] at this
                  exact this
                · rw [set_flat hR.2.2.1 d1 (by rw [hR.2.2.2]; exact d3)]
                  exact hR.1.splice o2 _
                · intro y hy
                  rcases mem_splice hy with hy | hy
                  · exact hR.2.1 y hy
                  · exact o1 y hy
                · intro y hy
                  rcases List.mem_or_eq_of_mem_set hy with hy | hy
                  · exact hR.2.2.1 y hy
                  · subst hy; exact d1
                · simpa using hR.2.2.2
              · simp at hstep) (List.replicate len zv) es ((Array.range (len * ie.size)).map (z.cells[· % z.cells.size]!)) hfold (by
                rw [zeros_list z.cells ie.size hzs]
                refine ⟨reps_replicate z2 len, ?_, ?_, by simp⟩
                · intro x hx
                  rw [List.mem_flatten] at hx
                  obtain ⟨l, hl, hx⟩ := hx
                  rw [List.eq_of_mem_replicate hl] at hx
                  exact z1 x hx
                · intro x hx
                  rw [List.eq_of_mem_replicate hx]; exact c1)
          obtain ⟨q1, q2, q3, q4⟩ := hR
          have hrun : (execOp a.eval o).run G.P st.w = .ok (.value (.slice (some ⟨st.w.heap.size, 0, none⟩) len len)) (st.w.alloc (.cells cells e)) := by
            have := run_buildSlice (P := G.P) st.w t e len (parts.map fun (i, x) => (i, a.eval x)) cells ie z hu hie hz (by omega) (by
              have := Nat.mul_pos (Nat.pos_of_ne_zero c4) hpos; omega) (by rw [← hfill]; simp)
            simp [execOp, ho, this]
          have hnew : Newer st.w (st.w.alloc (.cells cells e)) := Newer.alloc _ _
          obtain ⟨hok, hst⟩ := h.newer (ext' := st.ext) hnew (fun _ _ => rfl) (fun b hb => h.sr.fresh b (Nat.le_trans hnew.size hb))
          have hcell2 : (st.w.alloc (.cells cells e)).heap[st.w.heap.size]? = some (.cells cells e (0, 0)) := heap_alloc_new st.w _
          have hclen : cells.size = len * ie.size := by
            have := q1.length
            rw [flat_len q3, q4] at this
            simpa using this.symm
          have := goal_arr (o := o) (es := es) (sz := ie.size) (κ := len) (b := st.w.heap.size) (vs := cells) (e := e) hok hst hd hf hno hrun ⟨h.top, by simp, fun hS => by have := h.sr.small _ hS; omega⟩ (fun p hp => by
              have := (h.priv p _ hp).2.1; omega) (by rw [q4]) (by omega) (h.sr.fresh _ (Nat.le_refl _)) q3 hcell2 (by rw [hclen]; exact Nat.le_refl _)
            (by rw [q4, ← hclen, List.take_of_length_le (by simp)]; exact q1.mono (hnew.grow h.sr fun _ _ => rfl)) q2
          exact this
      · simp at hc
    · simp at hc
  · simp at hc

theorem apply_none (l : List Nat) (ρ : Env) (t : Nat) : apply (l.map fun t => (t, Slot.none)) ρ t = if t ∈ l then .none else ρ t := by
  induction l generalizing ρ with
  | nil => rfl
  | cons x l ih =>
    have e : apply ((x :: l).map fun t => (t, Slot.none)) ρ = apply (l.map fun t => (t, Slot.none)) (upd ρ x .none) := rfl
    rw [e, ih]
    by_cases hl : t ∈ l
    · simp [hl]
    · by_cases hx : t = x
      · subst hx; simp [hl, upd_same]
      · simp [hl, hx, upd_other _ _ _ hx]

/-- Slots are emptied. -/
theorem OK.erase (h : OK G an B0 st ρ σ tmps) (l : List Nat) (h1 : ∀ t s off, ρ t = .lptr s off → s ∈ l → t ∈ l) (h2 : ∀ t s n, ρ t = .larr s n → s ∈ l → t ∈ l) :
    OK G an B0 st (apply (l.map fun t => (t, Slot.none)) ρ) σ tmps ∧ ∀ p b, Has st.L (apply (l.map fun t => (t, Slot.none)) ρ) p b → Has st.L ρ p b ∧ p.slot ∉ l := by
  have hget : ∀ t, (t ∈ l ∧ apply (l.map fun t => (t, Slot.none)) ρ t = .none) ∨ (t ∉ l ∧ apply (l.map fun t => (t, Slot.none)) ρ t = ρ t) := by
    intro t
    rw [apply_none]
    by_cases hl : t ∈ l
    · exact .inl ⟨hl, by simp [hl]⟩
    · exact .inr ⟨hl, by simp [hl]⟩
  have hhas : ∀ p b, Has st.L (apply (l.map fun t => (t, Slot.none)) ρ) p b → Has st.L ρ p b ∧ p.slot ∉ l := by
    intro p b hp
    cases p with
    | box t =>
      rcases hget t with ⟨k, e⟩ | ⟨k, e⟩
      · simp [Has, e, Slot.isLoc] at hp
      · exact ⟨by simpa [Has, e] using hp, k⟩
    | own t i =>
      rcases hget t with ⟨k, e⟩ | ⟨k, e⟩
      · simp [Has, e, Slot.ows] at hp
      · exact ⟨by simpa [Has, e] using hp, k⟩
  refine ⟨⟨h.size, fun t => ?_, fun t => ?_, fun t s off ht => ?_, fun p b hp => h.priv p b (hhas p b hp).1, fun p q b hp hq => h.inj p q b (hhas p b hp).1 (hhas q b hq).1, h.base, h.out, h.sr, fun t s n ht => ?_⟩, hhas⟩
  · rcases hget t with ⟨_, e⟩ | ⟨_, e⟩
    · rw [e]; trivial
    · rw [e]; exact h.slot t
  · rcases hget t with ⟨_, e⟩ | ⟨_, e⟩
    · rw [e]; intro h'; exact absurd rfl h'
    · rw [e]; exact h.fits t
  · rcases hget t with ⟨_, e⟩ | ⟨k, e⟩
    · rw [e] at ht; cases ht
    · rw [e] at ht
      rcases hget s with ⟨k', _⟩ | ⟨_, e'⟩
      · exact absurd (h1 t s off ht k') k
      · rw [e']; exact h.lptr t s off ht
  · rcases hget t with ⟨_, e⟩ | ⟨k, e⟩
    · rw [e] at ht; cases ht
    · rw [e] at ht
      rcases hget s with ⟨k', _⟩ | ⟨_, e'⟩
      · exact absurd (h2 t s n ht k') k
      · rw [e']; exact h.larr t s n ht

theorem fits_into (h : OK G an B0 st ρ σ tmps) {t s : Nat} (hs : (∃ off, ρ t = .lptr s off) ∨ ∃ n, ρ t = .larr s n) : t ∈ (an.into.filter (·.2 == s)).map (·.1) := by
  have hmem : (t, s) ∈ an.into := by
    rcases hs with ⟨off, hs⟩ | ⟨n, hs⟩
    · have hfit := h.fits t (by rw [hs]; simp)
      rw [hs] at hfit
      simp only [fitsSlot, Bool.and_eq_true] at hfit
      exact lookup_mem (by simpa using hfit.1.2)
    · have hfit := h.fits t (by rw [hs]; simp)
      rw [hs] at hfit
      simp only [fitsSlot, Bool.and_eq_true] at hfit
      exact lookup_mem (by simpa using hfit.1.2)
  exact List.mem_map.2 ⟨(t, s), List.mem_filter.2 ⟨hmem, by simp⟩, rfl⟩

end Go.AI
