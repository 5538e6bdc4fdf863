/- The abstract machine: pointers, parts, slices. -/
import Derived.Test.YtdpamhejneicdaaGreatDoorZAI6
namespace Go.AI
set_option linter.unusedVariables false
set_option linter.unusedSimpArgs false
open Go

variable {G : Prg} {E : EE} {B0 : Nat → Prop} {st : St} {ρ ρm : Env} {σ σ' : Sig} {ups : List (Nat × Slot)} {a : Act} {o : Oper}

theorem flat_len {es : List AV} {sz : Nat} (h : ∀ e ∈ es, e.cells.length = sz) : (es.flatMap AV.cells).length = es.length * sz := by
  induction es with
  | nil => simp
  | cons e es ih =>
    simp only [List.flatMap_cons, List.length_append, List.length_cons]
    rw [h e (by simp), ih fun x hx => h x (List.mem_cons_of_mem _ hx), Nat.add_mul, Nat.one_mul, Nat.add_comm]

theorem flat_drop {es : List AV} {sz : Nat} (h : ∀ e ∈ es, e.cells.length = sz) (k : Nat) : (es.flatMap AV.cells).drop (k * sz) = (es.drop k).flatMap AV.cells := by
  induction es generalizing k with
  | nil => simp
  | cons e es ih =>
    cases k with
    | zero => simp
    | succ k =>
      simp only [List.flatMap_cons, List.drop_succ_cons]
      have he := h e (by simp)
      rw [Nat.add_mul, Nat.one_mul, List.drop_append, List.drop_of_length_le (by rw [he]; omega), he]
      simp only [List.nil_append]
      rw [show k * sz + sz - sz = k * sz from by omega]
      exact ih (fun x hx => h x (List.mem_cons_of_mem _ hx)) k

theorem flat_take {es : List AV} {sz : Nat} (h : ∀ e ∈ es, e.cells.length = sz) (k : Nat) : (es.flatMap AV.cells).take (k * sz) = (es.take k).flatMap AV.cells := by
  induction es generalizing k with
  | nil => simp
  | cons e es ih =>
    cases k with
    | zero => simp
    | succ k =>
      simp only [List.flatMap_cons, List.take_succ_cons]
      have he := h e (by simp)
      rw [Nat.add_mul, Nat.one_mul, List.take_append, List.take_of_length_le (by rw [he]; omega), he]
      rw [show k * sz + sz - sz = k * sz from by omega]
      rw [ih (fun x hx => h x (List.mem_cons_of_mem _ hx)) k]

theorem ptrOf_loc {tmps : Array Value} (h : OK G E.an B0 st ρ σ tmps) (ha : a.tmps = tmps) (hs : Sub ρm ρ) {x : Operand} {s off : Nat} (hp : ptrOf G ρm x = some (.loc s off)) :
    a.eval x = .pointer (some ⟨st.L.β s, off, none⟩) ∧ (ρ s).isLoc = true := by
  cases x with
  | tmp t =>
    simp only [ptrOf] at hp
    split at hp <;> simp at hp
    · rename_i cs ow hρ
      obtain ⟨rfl, rfl⟩ := hp
      have hρ' := hs.val hρ (by simp)
      have := h.slot t
      rw [hρ'] at this
      exact ⟨by simpa [Act.eval, ha] using this.1, by rw [hρ']; rfl⟩
    · rename_i s' off' hρ
      obtain ⟨rfl, rfl⟩ := hp
      have hρ' := hs.val hρ (by simp)
      have := h.slot t
      rw [hρ'] at this
      simp only [SlotOK] at this
      exact ⟨by simpa [Act.eval, ha] using this, h.lptr t _ _ hρ'⟩
  | global g => simp only [ptrOf] at hp; split at hp <;> simp at hp
  | const c => simp [ptrOf] at hp
  | func f => simp [ptrOf] at hp

theorem ptrOf_sh {tmps : Array Value} (h : OK G E.an B0 st ρ σ tmps) (ha : a.tmps = tmps) (hs : Sub ρm ρ) {x : Operand} {id off : Nat} (hp : ptrOf G ρm x = some (.sh id off)) :
    Rep st.w st.ext st.ι (.ptr id off) (a.eval x) := by
  cases x with
  | tmp t =>
    simp only [ptrOf] at hp
    split at hp <;> simp at hp
    rename_i id' off' ow hρ
    obtain ⟨rfl, rfl⟩ := hp
    exact opv_rep h ha hs (x := .tmp t) (t := 0) (by simp [opv, hρ])
  | global g => simp only [ptrOf] at hp; split at hp <;> simp at hp
  | const c => simp [ptrOf] at hp
  | func f => simp [ptrOf] at hp

theorem ptrOf_im {tmps : Array Value} (h : OK G E.an B0 st ρ σ tmps) (ha : a.tmps = tmps) (hs : Sub ρm ρ) {x : Operand} {cs : List AV} (hp : ptrOf G ρm x = some (.im cs)) :
    Rep st.w st.ext st.ι (.iptr cs) (a.eval x) := by
  cases x with
  | tmp t =>
    simp only [ptrOf] at hp
    split at hp <;> simp at hp
    rename_i cs' ow hρ
    obtain rfl := hp
    exact opv_rep h ha hs (x := .tmp t) (t := 0) (by simp [opv, hρ])
  | global g =>
    simp only [ptrOf] at hp
    split at hp <;> simp at hp
    rename_i cs' hg
    subst hp
    exact h.sr.globals g _ hg
  | const c => simp [ptrOf] at hp
  | func f => simp [ptrOf] at hp

theorem rep_ptr_inv {w : World} {ext : Nat → Nat} {ι : List Nat} {id off : Nat} {v : Value} (h : Rep w ext ι (.ptr id off) v) : ∃ b, ι[id]? = some b ∧ v = .pointer (some ⟨b, off, none⟩) := by
  cases h with | ptr _ _ b h => exact ⟨b, h, rfl⟩
theorem rep_iptr_inv {w : World} {ext : Nat → Nat} {ι : List Nat} {cs : List AV} {v : Value} (h : Rep w ext ι (.iptr cs) v) :
    ∃ b off vs, v = .pointer (some ⟨b, off, none⟩) ∧ Reps w ext ι cs vs ∧ (∀ x ∈ vs, x.oneCell' = true) ∧ ∀ i v, vs[i]? = some v → w.cell? ⟨b, off + i, none⟩ = some v ∧ off + i < ext b := by
  cases h with | iptr _ vs b off hr h1 hc => exact ⟨b, off, vs, rfl, hr, h1, hc⟩
theorem rep_slice_inv {w : World} {ext : Nat → Nat} {ι : List Nat} {sz : Nat} {es : List AV} {v : Value} (h : Rep w ext ι (.slice sz es) v) :
    ∃ p cap vs, v = .slice p es.length cap ∧ es.length ≤ cap ∧ (∀ e ∈ es, e.cells.length = sz) ∧ Reps w ext ι (es.flatMap AV.cells) vs ∧ (∀ x ∈ vs, x.oneCell' = true) ∧
      (vs = [] ∨ ∃ b off, p = some ⟨b, off, none⟩ ∧ ∀ i v, vs[i]? = some v → w.cell? ⟨b, off + i, none⟩ = some v ∧ off + i < ext b) := by
  cases h with | slice _ _ p n cap vs hn hc hs hr h1 ha => subst hn; exact ⟨p, cap, vs, rfl, hc, hs, hr, h1, ha⟩
theorem rep_agg_inv {w : World} {ext : Nat → Nat} {ι : List Nat} {cs : List AV} {v : Value} (h : Rep w ext ι (.agg cs) v) : ∃ vs, v = .agg vs ∧ Reps w ext ι cs vs.toList ∧ ∀ x ∈ vs.toList, x.oneCell' = true := by
  cases h with | agg _ vs h1 h2 => exact ⟨vs, rfl, h1, h2⟩

theorem rep_iptr_drop {w : World} {ext : Nat → Nat} {ι : List Nat} {cs : List AV} {b off : Nat} {vs : List Value} (hr : Reps w ext ι cs vs)
    (h1 : ∀ x ∈ vs, x.oneCell' = true) (hc : ∀ i v, vs[i]? = some v → w.cell? ⟨b, off + i, none⟩ = some v ∧ off + i < ext b) (k : Nat) : Rep w ext ι (.iptr (cs.drop k)) (.pointer (some ⟨b, off + k, none⟩)) :=
  .iptr _ _ _ _ (hr.drop k) (fun x hx => h1 x (List.mem_of_mem_drop hx)) fun i v hi => by rw [List.getElem?_drop] at hi; have := hc _ _ hi; rwa [← Nat.add_assoc] at this

theorem sound_nilCheck {x : Operand} (ho : o.op = .nilCheck x) (h : OK G E.an B0 st ρ σ a.tmps) (hs : Sub ρm ρ) (hc : core1 G E o ρm = some ups) (hf : Fit E.an ups) :
    OpGoal G E.an B0 st a o (apply ups ρ) σ := by
  simp only [core1, ho, Option.bind_eq_bind, Option.bind_eq_some_iff] at hc
  obtain ⟨p, hp, hc⟩ := hc
  have hr := opv_rep h rfl hs hp
  split at hc
  · simp at hc; obtain rfl := hc
    obtain ⟨b, _, hv⟩ := rep_ptr_inv hr
    exact goal_plain h hf (c := a.eval x) (by simp [execOp, ho, hv]) hr
  · simp at hc; obtain rfl := hc
    obtain ⟨b, off, vs, hv, _⟩ := rep_iptr_inv hr
    exact goal_plain h hf (c := a.eval x) (by simp [execOp, ho, hv]) hr
  · simp at hc

theorem info_of_cells {P : Program} {t : TypeId} (h : P.cellsOf t ≠ 0) : (P.info? t).isSome = true := by
  unfold Program.cellsOf at h
  cases hi : P.info? t with
  | none => rw [hi] at h; simp at h
  | some i => rfl

theorem sound_fieldAddr {t : TypeId} {x : Operand} {f : Nat} (ho : o.op = .fieldAddr t x f) (h : OK G E.an B0 st ρ σ a.tmps) (hs : Sub ρm ρ) (hc : core1 G E o ρm = some ups) (hf : Fit E.an ups) :
    OpGoal G E.an B0 st a o (apply ups ρ) σ := by
  simp only [core1, ho, Option.bind_eq_bind, Option.bind_eq_some_iff] at hc
  split at hc
  · rename_i fs hu
    rw [Option.bind_eq_some_iff] at hc
    obtain ⟨fd, hfd, hc⟩ := hc
    split at hc
    · simp at hc
    · rename_i hz
      rw [Option.bind_eq_some_iff] at hc
      obtain ⟨p, hp, hc⟩ := hc
      have run : ∀ b off, a.eval x = .pointer (some ⟨b, off, none⟩) → (execOp a.eval o).run G.P st.w = .ok (.value (.pointer (some ⟨b, off + fd.offset, none⟩))) st.w := by
        intro b off he
        simp [execOp, ho, he, Instr.fieldAt, Instr.sureAddr, run_underlying hu, hfd, fieldPlace, sizeOf_run _ (info_of_cells hz), hz, addr_add]
      cases p with
      | loc s off =>
        simp at hc; obtain rfl := hc
        obtain ⟨h1, h2⟩ := ptrOf_loc h rfl hs hp
        exact goal_lptr h hf h2 (run _ _ h1)
      | sh id off =>
        simp at hc; obtain rfl := hc
        obtain ⟨b, hb, he⟩ := rep_ptr_inv (ptrOf_sh h rfl hs hp)
        exact goal_plain h hf (run _ _ he) (.ptr _ _ _ hb)
      | im cs =>
        simp at hc; obtain rfl := hc
        obtain ⟨b, off, vs, he, hr, h1c, hcell⟩ := rep_iptr_inv (ptrOf_im h rfl hs hp)
        exact goal_plain h hf (run _ _ he) (rep_iptr_drop hr h1c hcell _)
  · simp at hc

theorem part_run {P : Program} {t : TypeId} (w : World) {vs : Array Value} {cs : List AV} {ext : Nat → Nat} {ι : List Nat} {v : AV} (ht : tyOk P t = true)
    (hr : Reps w ext ι cs vs.toList) (hone : ∀ x ∈ vs.toList, x.oneCell' = true) (o : Nat) (hcut : cut (aggT P t) cs o (P.cellsOf t) = some v) (w' : World) :
    ∃ c, (part t vs o).run P w' = .ok c w' ∧ Rep w ext ι v c := by
  have hi : (P.info? t).isSome = true := by unfold tyOk at ht; simp only [Bool.and_eq_true] at ht; exact ht.2
  unfold cut at hcut
  dsimp only at hcut
  split at hcut
  · rename_i hlen
    have hdr := (hr.drop o).take (P.cellsOf t)
    have hlen2 := hdr.length
    have hone' : ∀ x ∈ (vs.toList.drop o).take (P.cellsOf t), x.oneCell' = true := fun x hx => hone x (List.mem_of_mem_drop (List.mem_of_mem_take hx))
    unfold joinC at hcut
    cases hagg : aggT P t with
    | true =>
      rw [hagg] at hcut
      simp at hcut; subst hcut
      refine ⟨.agg (vs.extract o (o + P.cellsOf t)), ?_, .agg _ _ (by rw [extract_list]; exact hdr) (by rw [extract_list]; exact hone')⟩
      simp only [part, Sem.run_bind, aggT_run w' ht, Result.andThen_ok, hagg, if_true, sizeOf_run w' hi, Sem.run_pure]
    | false =>
      rw [hagg] at hcut
      simp only [if_false, Bool.false_eq_true] at hcut
      split at hcut
      · rename_i c hl
        split at hcut
        · simp at hcut
        · simp at hcut; subst hcut
          try rw [hl] at hdr
          try rw [hl] at hlen
          have hn1 : P.cellsOf t = 1 := by simpa using hlen.symm
          rw [hn1] at hdr
          generalize hq : (vs.toList.drop o).take 1 = q at *
          cases hdr with
          | cons _ x _ r hx hr' =>
            cases hr'
            have hox : vs[o]? = some x := by
              have : ((vs.toList.drop o).take 1)[0]? = some x := by rw [hq]; rfl
              simpa [List.getElem?_take_of_lt, List.getElem?_drop] using this
            refine ⟨x, ?_, hx⟩
            simp only [part, Sem.run_bind, aggT_run w' ht, Result.andThen_ok, hagg, if_false, Bool.false_eq_true, hox, Sem.run_pure]
      · simp at hcut
  · simp at hcut

theorem sound_field {t : TypeId} {x : Operand} {f : Nat} (ho : o.op = .field t x f) (h : OK G E.an B0 st ρ σ a.tmps) (hs : Sub ρm ρ) (hc : core1 G E o ρm = some ups) (hf : Fit E.an ups) :
    OpGoal G E.an B0 st a o (apply ups ρ) σ := by
  simp only [core1, ho, Option.bind_eq_bind, Option.bind_eq_some_iff] at hc
  obtain ⟨p, hp, hc⟩ := hc
  split at hc
  · rename_i fs cs hu
    rw [Option.bind_eq_some_iff] at hc
    obtain ⟨fd, hfd, hc⟩ := hc
    split at hc
    · simp at hc
    · rename_i hty
      rw [Option.bind_eq_some_iff] at hc
      obtain ⟨v, hv, hc⟩ := hc
      simp at hc; obtain rfl := hc
      obtain ⟨vs, he, hr, hone⟩ := rep_agg_inv (opv_rep h rfl hs hp)
      obtain ⟨c, h1, h2⟩ := part_run st.w (by simpa using hty) hr hone _ hv st.w
      refine goal_plain h hf (c := c) ?_ h2
      simp [execOp, ho, he, Instr.field, run_underlying hu, hfd, asAgg, h1]
  · simp at hc

theorem sound_index {t : TypeId} {x i : Operand} (ho : o.op = .index t x i) (h : OK G E.an B0 st ρ σ a.tmps) (hs : Sub ρm ρ) (hc : core1 G E o ρm = some ups) (hf : Fit E.an ups) :
    OpGoal G E.an B0 st a o (apply ups ρ) σ := by
  simp only [core1, ho, Option.bind_eq_bind, Option.bind_eq_some_iff] at hc
  obtain ⟨j, hj, hc⟩ := hc
  split at hc
  · rename_i k n
    split at hc
    · simp at hc
    · rename_i hn
      rw [Option.bind_eq_some_iff] at hc
      obtain ⟨p, hp, hc⟩ := hc
      split at hc
      · rename_i len e cs hu
        split at hc
        · rename_i hlt
          rw [Option.bind_eq_some_iff] at hc
          obtain ⟨v, hv, hc⟩ := hc
          simp at hc; obtain rfl := hc
          obtain ⟨vs, he, hr, hone⟩ := rep_agg_inv (opv_rep h rfl hs hp)
          have hi := rep_int_inv (opv_rep h rfl hs hj)
          obtain ⟨c, h1, h2⟩ := part_run st.w hlt.2 hr hone _ hv st.w
          have hinfo : (G.P.info? e).isSome = true := by have := hlt.2; unfold tyOk at this; simp only [Bool.and_eq_true] at this; exact this.2
          refine goal_plain h hf (c := c) ?_ h2
          have h0 : 0 ≤ n := by omega
          have hl : n < (len : Int) := by omega
          simp [execOp, ho, he, hi, Instr.index, asIntOf, run_underlying hu, h0, hl, sizeOf_run _ hinfo, h1]
        · simp at hc
      · simp at hc
  · simp at hc

theorem sound_indexAddr {t : TypeId} {x i : Operand} (ho : o.op = .indexAddr t x i) (h : OK G E.an B0 st ρ σ a.tmps) (hs : Sub ρm ρ) (hc : core1 G E o ρm = some ups) (hf : Fit E.an ups) :
    OpGoal G E.an B0 st a o (apply ups ρ) σ := by
  simp only [core1, ho, Option.bind_eq_bind, Option.bind_eq_some_iff] at hc
  obtain ⟨j, hj, hc⟩ := hc
  split at hc
  · rename_i k n
    have hi := rep_int_inv (opv_rep h rfl hs hj)
    split at hc
    · simp at hc
    · rename_i hn
      have h0 : 0 ≤ n := by omega
      split at hc
      · rename_i e hu
        rw [Option.bind_eq_some_iff] at hc
        obtain ⟨p, hp, hc⟩ := hc
        split at hc
        · rename_i sz es
          split at hc
          · simp at hc
          · rename_i hsz
            rw [Option.bind_eq_some_iff] at hc
            obtain ⟨ev, hev, hc⟩ := hc
            simp at hc; obtain rfl := hc
            have hsz1 : sz = G.P.cellsOf e := by omega
            have hsz2 : sz ≠ 0 := by omega
            obtain ⟨pa, cap, vs, he, hcap, hes, hr, h1c, hadr⟩ := rep_slice_inv (opv_rep h rfl hs hp)
            have hlt : n.toNat < es.length := (List.getElem?_eq_some_iff.1 hev).1
            have hmem : ev ∈ es := List.mem_of_getElem? hev
            have hvl : vs.length = es.length * sz := by rw [← hr.length, flat_len hes]
            have hne : vs ≠ [] := by
              intro hvs
              rw [hvs] at hvl
              have h1 : 0 < es.length * sz := Nat.mul_pos (by omega) (by omega)
              simp only [List.length_nil] at hvl
              omega
            obtain ⟨b, off, rfl, hcell⟩ := hadr.resolve_left hne
            have hd : ((es.flatMap AV.cells).drop (n.toNat * sz)).take sz = ev.cells := by
              rw [flat_drop hes, List.drop_eq_getElem_cons hlt]
              have : es[n.toNat] = ev := (List.getElem?_eq_some_iff.1 hev).2
              rw [this, List.flatMap_cons, List.take_append_of_le_length (by rw [hes ev hmem]; exact Nat.le_refl _), List.take_of_length_le (by rw [hes ev hmem]; exact Nat.le_refl _)]
            refine goal_plain h hf (c := .pointer (some ⟨b, off + n.toNat * sz, none⟩)) ?_ (.iptr _ ((vs.drop (n.toNat * sz)).take sz) _ _ ?_ (fun x hx => h1c x (List.mem_of_mem_drop (List.mem_of_mem_take hx))) ?_)
            · have hl : n < (es.length : Int) := by omega
              have hinfo := info_of_cells (P := G.P) (t := e) (by omega)
              simp [execOp, ho, he, hi, Instr.indexAt, asIntOf, run_underlying hu, h0, hl, sizeOf_run _ hinfo, addr_add, hsz1]
            · have := (hr.drop (n.toNat * sz)).take sz
              rwa [hd] at this
            · intro i v hv
              have hlt' := (List.getElem?_eq_some_iff.1 hv).1
              rw [List.getElem?_take_of_lt (by simp at hlt'; omega), List.getElem?_drop] at hv
              have := hcell _ _ hv
              rwa [← Nat.add_assoc] at this
        · simp at hc
      · rename_i len e hu
        split at hc
        · rename_i hcond
          obtain ⟨hlt, hlen1, hpos⟩ := hcond
          rw [Option.bind_eq_some_iff] at hc
          obtain ⟨p, hp, hc⟩ := hc
          have run : ∀ b off, a.eval x = .pointer (some ⟨b, off, none⟩) → (execOp a.eval o).run G.P st.w = .ok (.value (.pointer (some ⟨b, off + n.toNat * G.P.cellsOf e, none⟩))) st.w := by
            intro b off he
            have hl : n < (len : Int) := by omega
            have hnl : ¬ len ≤ 1 := by omega
            have hinfo := info_of_cells (P := G.P) (t := e) (by omega)
            simp [execOp, ho, he, hi, Instr.indexAt, asIntOf, Instr.sureAddr, run_underlying hu, h0, hl, hnl, sizeOf_run _ hinfo, addr_add]
          cases p with
          | loc s off =>
            simp at hc; obtain rfl := hc
            obtain ⟨h1, h2⟩ := ptrOf_loc h rfl hs hp
            exact goal_lptr h hf h2 (run _ _ h1)
          | sh id off =>
            simp at hc; obtain rfl := hc
            obtain ⟨b, hb, he⟩ := rep_ptr_inv (ptrOf_sh h rfl hs hp)
            exact goal_plain h hf (run _ _ he) (.ptr _ _ _ hb)
          | im cs =>
            simp at hc; obtain rfl := hc
            obtain ⟨b, off, vs, he, hr, h1c, hcell⟩ := rep_iptr_inv (ptrOf_im h rfl hs hp)
            exact goal_plain h hf (run _ _ he) (rep_iptr_drop hr h1c hcell _)
        · simp at hc
      · simp at hc
  · simp at hc

end Go.AI
