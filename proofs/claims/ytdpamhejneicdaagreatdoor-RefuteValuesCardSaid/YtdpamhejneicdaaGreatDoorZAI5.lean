/- The abstract machine: operations that make a value and leave the world alone. -/
import Derived.Test.YtdpamhejneicdaaGreatDoorZAI4
namespace Go.AI
set_option linter.unusedVariables false
set_option linter.unusedSimpArgs false
open Go

variable {G : Prg} {an : Ann} {B0 : Nat → Prop} {st : St} {ρ ρm : Env} {σ : Sig}

/-- What an operation comes to. -/
def OpGoal (G : Prg) (an : Ann) (B0 : Nat → Prop) (st : St) (a : Act) (o : Oper) (ρ' : Env) (σ' : Sig) : Prop :=
  ∃ v st', ((execOp a.eval o).run G.P st.w = .ok (.value v) st'.w ∨ ((execOp a.eval o).run G.P st.w = .ok .skip st'.w ∧ v = undef)) ∧
    OK G an B0 st' ρ' σ' (a.put o.dst v).tmps ∧ Step B0 st st'

/-- A part of what is at hand. -/
def Sub (ρm ρ : Env) : Prop := ∀ t, ρm t ≠ .none → ρm t = ρ t

theorem Sub.val (h : Sub ρm ρ) {t : Nat} {s : Slot} (hs : ρm t = s) (hn : s ≠ .none) : ρ t = s := by
  rw [← h t (by rw [hs]; exact hn), hs]

theorem mask_sub (l : List Nat) (ρ : Env) : Sub (mask l ρ) ρ := by
  intro t ht
  unfold mask at *
  split <;> simp_all

theorem opv_rep {tmps : Array Value} {a : Act} (h : OK G an B0 st ρ σ tmps) (ha : a.tmps = tmps) (hs : Sub ρm ρ) {t : TypeId} {x : Operand} {v : AV} (hv : opv G ρm t x = some v) :
    Rep st.w st.ext st.ι v (a.eval x) := by
  cases x with
  | tmp s =>
    simp only [opv] at hv
    split at hv
    · rename_i v' ow hρ
      simp at hv; subst hv
      have := h.slot s
      rw [hs.val hρ (by simp)] at this
      simpa [Act.eval, ha] using this.1
    · simp at hv
  | const c => exact cval_rep hv
  | global g => exact h.sr.globals g v hv
  | func f => simp [opv] at hv; subst hv; exact .func _ _ _ _ _ .nil .nil

theorem put_tmps (a : Act) (d : Tmp) (v : Value) : (a.put (some d) v).tmps = a.tmps.setIfInBounds d v := rfl

/-- What the updates must fit. -/
def Fit (an : Ann) (ups : List (Nat × Slot)) : Prop := ∀ u ∈ ups, u.1 < an.ntmps ∧ fitsSlot an u.1 u.2 = true

theorem fit_val {an : Ann} {d : Nat} {v : AV} {ow : List Nat} (h : fitsSlot an d (.val v ow) = true) : an.loc.contains d = false := by
  simpa [fitsSlot] using h

/-- A plain value is made, the world is as it was. -/
theorem goal_plain {a : Act} {o : Oper} {v : AV} {c : Value} (h : OK G an B0 st ρ σ a.tmps) (hf : Fit an (puts o.dst (.val v [])))
    (hr : (execOp a.eval o).run G.P st.w = .ok (.value c) st.w) (hv : Rep st.w st.ext st.ι v c) : OpGoal G an B0 st a o (apply (puts o.dst (.val v [])) ρ) σ := by
  cases hd : o.dst with
  | none =>
    refine ⟨c, st, .inl hr, ?_, Step.refl _ _⟩
    simpa [puts, apply, hd, Act.put] using h
  | some d =>
    obtain ⟨h1, h2⟩ := hf (d, .val v []) (by simp [puts, hd])
    obtain ⟨L, hL⟩ := h.putPlain h1 (fit_val h2) hv
    refine ⟨c, { st with L := L }, .inl hr, ?_, ⟨Grow.refl _ _ _, Nat.le_refl _, fun _ _ => ⟨rfl, rfl⟩, rfl, rfl, rfl⟩⟩
    simpa [puts, apply, hd, put_tmps] using hL

theorem okL (L : Lay) : Step B0 st { st with L := L } := ⟨Grow.refl _ _ _, Nat.le_refl _, fun _ _ => ⟨rfl, rfl⟩, rfl, rfl, rfl⟩

/-- A pointer into a private box is made. -/
theorem goal_lptr {a : Act} {o : Oper} {s off : Nat} (h : OK G an B0 st ρ σ a.tmps) (hf : Fit an (puts o.dst (.lptr s off))) (hl : (ρ s).isLoc = true)
    (hr : (execOp a.eval o).run G.P st.w = .ok (.value (.pointer (some ⟨st.L.β s, off, none⟩))) st.w) : OpGoal G an B0 st a o (apply (puts o.dst (.lptr s off)) ρ) σ := by
  cases hd : o.dst with
  | none =>
    refine ⟨_, st, .inl hr, ?_, Step.refl _ _⟩
    simpa [puts, apply, hd, Act.put] using h
  | some d =>
    obtain ⟨h1, h2⟩ := hf (d, .lptr s off) (by simp [puts, hd])
    have hdl : an.loc.contains d = false := by simp only [fitsSlot, Bool.and_eq_true] at h2; simpa using h2.2
    have hnl : (ρ d).isLoc = false := by
      by_cases hn : ρ d = .none
      · rw [hn]; rfl
      · rcases fits_loc (h.fits d hn) with k | k
        · rw [k]; exact hdl
        · exact absurd k hn
    have hsd : s ≠ d := by rintro rfl; rw [hnl] at hl; cases hl
    refine ⟨_, st, .inl hr, ?_, Step.refl _ _⟩
    simp only [puts, apply, hd, put_tmps, List.foldl]
    have hhas : ∀ p b, Has st.L (upd ρ d (.lptr s off)) p b → Has st.L ρ p b := by
      intro p b hp
      cases p with
      | box t =>
        by_cases ht : t = d
        · subst ht; simp [Has, upd_same, Slot.isLoc] at hp
        · simpa only [Has, upd_other _ _ _ ht] using hp
      | own t i =>
        by_cases ht : t = d
        · subst ht; simp [Has, upd_same, Slot.ows] at hp
        · simpa only [Has, upd_other _ _ _ ht] using hp
    have hd' : d < a.tmps.size := by rw [h.size]; exact h1
    refine ⟨by simpa using h.size, fun t => ?_, fun t => ?_, fun t s' off' ht => ?_, fun p b hp => h.priv p b (hhas p b hp), fun p q b hp hq => h.inj p q b (hhas p b hp) (hhas q b hq), h.base, h.out, h.sr, fun t s' n ht => ?_⟩
    · rw [getD_set _ _ _ hd']
      by_cases ht : t = d
      · subst ht; rw [upd_same, if_pos rfl]; rfl
      · rw [upd_other _ _ _ ht, if_neg ht]; exact h.slot t
    · by_cases ht : t = d
      · subst ht; rw [upd_same]; intro _; exact h2
      · rw [upd_other _ _ _ ht]; exact h.fits t
    · by_cases ht' : t = d
      · subst ht'; rw [upd_same] at ht; cases ht; rw [upd_other _ _ _ hsd]; exact hl
      · rw [upd_other _ _ _ ht'] at ht
        have k := h.lptr t s' off' ht
        have hsd' : s' ≠ d := by rintro rfl; rw [hnl] at k; cases k
        rw [upd_other _ _ _ hsd']; exact k
    · have hne : t ≠ d := by rintro rfl; rw [upd_same] at ht; cases ht
      rw [upd_other _ _ _ hne] at ht
      obtain ⟨sz, es, h4, h5⟩ := h.larr t s' n ht
      have hsd' : s' ≠ d := by rintro rfl; rw [h4] at hnl; cases hnl
      exact ⟨sz, es, by rw [upd_other _ _ _ hsd']; exact h4, h5⟩

/-! ### Reading cells -/

theorem addr_add (b o n : Nat) : (⟨b, o, none⟩ : Addr).add n = ⟨b, o + n, none⟩ := by
  unfold Addr.add; split <;> simp_all

theorem aggT_run {P : Program} {t : TypeId} (w : World) (h : tyOk P t = true) : (isAgg t).run P w = .ok (aggT P t) w := by
  unfold tyOk at h
  simp only [Bool.and_eq_true, Option.isSome_iff_exists] at h
  obtain ⟨⟨d, hd⟩, _⟩ := h
  unfold aggT isAgg
  rw [hd]
  simp only [Sem.run_bind, run_underlying hd, Result.andThen_ok]
  cases d <;> rfl

theorem sizeOf_run {P : Program} {t : TypeId} (w : World) (h : (P.info? t).isSome = true) : (sizeOf t).run P w = .ok (P.cellsOf t) w := by
  obtain ⟨i, hi⟩ := Option.isSome_iff_exists.1 h
  simp [sizeOf, typeInfo, Sem.run_bind, program, Sem.run, hi, Result.andThen, Program.cellsOf]

/-- The cells from an address on, as a value of a type. -/
theorem loadVar_run {P : Program} {t : TypeId} (w : World) (b off : Nat) {vs : List Value} {cs : List AV} {ext : Nat → Nat} {ι : List Nat} {v : AV} (ht : tyOk P t = true)
    (hr : Reps w ext ι cs vs) (hone : ∀ x ∈ vs, x.oneCell' = true) (hc : ∀ i x, vs[i]? = some x → w.cell? ⟨b, off + i, none⟩ = some x) (o : Nat)
    (hcut : cut (aggT P t) cs o (P.cellsOf t) = some v) : ∃ c, (loadVar t ⟨b, off + o, none⟩).run P w = .ok c w ∧ Rep w ext ι v c ∧
      (∀ y x, P.cellsOf t = 1 → v.cells[0]? = some y → c.cells[0]? = some x → cs[o]? = some y ∧ vs[o]? = some x) := by
  have hi : (P.info? t).isSome = true := by unfold tyOk at ht; simp only [Bool.and_eq_true] at ht; exact ht.2
  unfold cut at hcut
  dsimp only at hcut
  split at hcut
  · rename_i hlen
    have hdr := (hr.drop o).take (P.cellsOf t)
    have hlen2 := hdr.length
    rw [hlen] at hlen2
    have hcell : ∀ i x, ((vs.drop o).take (P.cellsOf t))[i]? = some x → w.cell? ((⟨b, off + o, none⟩ : Addr).add i) = some x := by
      intro i x hx
      rw [addr_add]
      have hlt := (List.getElem?_eq_some_iff.1 hx).1
      rw [List.getElem?_take_of_lt (by omega), List.getElem?_drop] at hx
      have := hc (o + i) x hx
      rwa [← Nat.add_assoc] at this
    have hone' : ∀ x ∈ (vs.drop o).take (P.cellsOf t), x.oneCell' = true := fun x hx => hone x (List.mem_of_mem_drop (List.mem_of_mem_take hx))
    unfold joinC at hcut
    cases hagg : aggT P t with
    | true =>
      rw [hagg] at hcut
      simp at hcut; subst hcut
      refine ⟨.agg ((vs.drop o).take (P.cellsOf t)).toArray, ?_, .agg _ _ (by simpa using hdr) (by simpa using hone'), fun y x h1 hy hx => ?_⟩
      · have hrun := run_loadCells_list (P := P) (w := w) (⟨b, off + o, none⟩ : Addr) ((vs.drop o).take (P.cellsOf t)) hcell
        rw [← hlen2] at hrun
        simp only [loadVar, Sem.run_bind, aggT_run w ht, Result.andThen_ok, hagg, if_true, sizeOf_run w hi, hrun]
        rfl
      · rw [h1] at hy hx
        simp only [AV.cells, Value.cells] at hy hx
        rw [List.getElem?_take_of_lt (by omega), List.getElem?_drop] at hy
        simp only [List.getElem?_toArray] at hx
        rw [List.getElem?_take_of_lt (by omega), List.getElem?_drop] at hx
        exact ⟨hy, hx⟩
    | false =>
      rw [hagg] at hcut
      simp only [if_false, Bool.false_eq_true] at hcut
      split at hcut
      · rename_i c hl
        split at hcut
        · simp at hcut
        · rename_i hna
          simp at hcut; subst hcut
          try rw [hl] at hlen
          try rw [hl] at hdr
          have hn1 : P.cellsOf t = 1 := by simpa using hlen.symm
          rw [hn1] at hdr hcell hone'
          generalize hq : (vs.drop o).take 1 = q at *
          cases hdr with
          | cons _ x _ r hx hr' =>
            cases hr'
            have h0 := hcell 0 x rfl
            rw [addr_add, Nat.add_zero] at h0
            have hox : vs[o]? = some x := by
              have : ((vs.drop o).take 1)[0]? = some x := by rw [hq]; rfl
              simpa [List.getElem?_take_of_lt, List.getElem?_drop] using this
            have hoc : cs[o]? = some c := by
              have : ((cs.drop o).take (P.cellsOf t))[0]? = some c := by rw [hl]; rfl
              rw [hn1] at this
              simpa [List.getElem?_take_of_lt, List.getElem?_drop] using this
            have hxo := hone' x (by simp)
            have k1 : c.cells = [c] := by cases c <;> simp_all [AV.cells]
            have k2 : x.cells = #[x] := by cases x <;> simp_all [Value.cells, Value.oneCell']
            refine ⟨x, ?_, hx, fun y z _ hy hz => ?_⟩
            · simp only [loadVar, Sem.run_bind, aggT_run w ht, Result.andThen_ok, hagg, if_false, Bool.false_eq_true, load, Sem.run]
              rw [h0]
            · rw [k1] at hy; rw [k2] at hz
              simp at hy hz; subst hy; subst hz
              exact ⟨hoc, hox⟩
      · simp at hcut
  · simp at hcut

end Go.AI
