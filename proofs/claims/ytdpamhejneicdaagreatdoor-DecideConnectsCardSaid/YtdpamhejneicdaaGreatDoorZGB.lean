/- The abstract machine: pointers, parts, slices. -/
import Derived.Test.YtdpamhejneicdaaGreatDoorZGA
import Derived.Laws.AppendOwn
import Derived.Great.BuildSlice
namespace Go.AI
set_option linter.unusedVariables false
set_option linter.unusedSimpArgs false
open Go

variable {G : Prg} {E : EE} {B0 : Nat → Prop} {st : St} {ρ ρm : Env} {σ σ' : Sig} {ups : List (Nat × Slot)} {a : Act} {o : Oper}

theorem flat_len {es : List AV} {sz : Nat} (h : ∀ e ∈ es, e.cells.length = sz) : (es.flatMap AV.cells).length = es.length * sz := by
  induction es with
  | nil => simp
  | cons e es ih =>
    simp only [List.flatMap_cons, List.length_append, List.length_cons]
    rw [h e (by simp), ih fun x hx => h x (List.mem_cons_of_mem _ hx), Nat.add_mul, Nat.one_mul, Nat.add_comm]

theorem flat_drop {es : List AV} {sz : Nat} (h : ∀ e ∈ es, e.cells.length = sz) (k : Nat) : (es.flatMap AV.cells).drop (k * sz) = (es.drop k).flatMap AV.cells := by
  induction es generalizing k with
  | nil => simp
  | cons e es ih =>
    cases k with
    | zero => simp
    | succ k =>
      simp only [List.flatMap_cons, List.drop_succ_cons]
      have he := h e (by simp)
      rw [Nat.add_mul, Nat.one_mul, List.drop_append, List.drop_of_length_le (by rw [he]; omega), he]
      simp only [List.nil_append]
      rw [show k * sz + sz - sz = k * sz from by omega]
      exact ih (fun x hx => h x (List.mem_cons_of_mem _ hx)) k

theorem flat_take {es : List AV} {sz : Nat} (h : ∀ e ∈ es, e.cells.length = sz) (k : Nat) : (es.flatMap AV.cells).take (k * sz) = (es.take k).flatMap AV.cells := by
  induction es generalizing k with
  | nil => simp
  | cons e es ih =>
    cases k with
    | zero => simp
    | succ k =>
      simp only [List.flatMap_cons, List.take_succ_cons]
      have he := h e (by simp)
      rw [Nat.add_mul, Nat.one_mul, List.take_append, List.take_of_length_le (by rw [he]; omega), he]
      rw [show k * sz + sz - sz = k * sz from by omega]
      rw [ih (fun x hx => h x (List.mem_cons_of_mem _ hx)) k]

theorem ptrOf_loc {tmps : Array Value} (h : OK G E.an B0 st ρ σ tmps) (ha : a.tmps = tmps) (hs : Sub ρm ρ) {x : Operand} {s off : Nat} (hp : ptrOf G ρm x = some (.loc s off)) :
    a.eval x = .pointer (some ⟨st.L.β s, off, none⟩) ∧ (ρ s).isLoc = true := by
  cases x with
  | tmp t =>
    simp only [ptrOf] at hp
    split at hp <;> simp at hp
    · rename_i cs ow hρ
      obtain ⟨rfl, rfl⟩ := hp
      have hρ' := hs.val hρ (by simp)
      have := h.slot t
      rw [hρ'] at this
      exact ⟨by simpa [Act.eval, ha] using this.1, by rw [hρ']; rfl⟩
    · rename_i s' off' hρ
      obtain ⟨rfl, rfl⟩ := hp
      have hρ' := hs.val hρ (by simp)
      have := h.slot t
      rw [hρ'] at this
      simp only [SlotOK] at this
      exact ⟨by simpa [Act.eval, ha] using this, h.lptr t _ _ hρ'⟩
  | global g => simp only [ptrOf] at hp; split at hp <;> simp at hp
  | const c => simp [ptrOf] at hp
  | func f => simp [ptrOf] at hp

theorem ptrOf_sh {tmps : Array Value} (h : OK G E.an B0 st ρ σ tmps) (ha : a.tmps = tmps) (hs : Sub ρm ρ) {x : Operand} {id off : Nat} (hp : ptrOf G ρm x = some (.sh id off)) :
    Rep st.w st.ext st.ι (.ptr id off) (a.eval x) := by
  cases x with
  | tmp t =>
    simp only [ptrOf] at hp
    split at hp <;> simp at hp
    rename_i id' off' ow hρ
    obtain ⟨rfl, rfl⟩ := hp
    exact opv_rep h ha hs (x := .tmp t) (t := 0) (by simp [opv, hρ])
  | global g => simp only [ptrOf] at hp; split at hp <;> simp at hp
  | const c => simp [ptrOf] at hp
  | func f => simp [ptrOf] at hp

theorem ptrOf_im {tmps : Array Value} (h : OK G E.an B0 st ρ σ tmps) (ha : a.tmps = tmps) (hs : Sub ρm ρ) {x : Operand} {cs : List AV} (hp : ptrOf G ρm x = some (.im cs)) :
    Rep st.w st.ext st.ι (.iptr cs) (a.eval x) := by
  cases x with
  | tmp t =>
    simp only [ptrOf] at hp
    split at hp <;> simp at hp
    rename_i cs' ow hρ
    obtain rfl := hp
    exact opv_rep h ha hs (x := .tmp t) (t := 0) (by simp [opv, hρ])
  | global g =>
    simp only [ptrOf] at hp
    split at hp <;> simp at hp
    rename_i cs' hg
    subst hp
    exact h.sr.globals g _ hg
  | const c => simp [ptrOf] at hp
  | func f => simp [ptrOf] at hp

theorem rep_ptr_inv {w : World} {ext : Nat → Nat} {ι : List Nat} {id off : Nat} {v : Value} (h : Rep w ext ι (.ptr id off) v) : ∃ b, ι[id]? = some b ∧ v = .pointer (some ⟨b, off, none⟩) := by
  cases h with | ptr _ _ b h => exact ⟨b, h, rfl⟩
theorem rep_iptr_inv {w : World} {ext : Nat → Nat} {ι : List Nat} {cs : List AV} {v : Value} (h : Rep w ext ι (.iptr cs) v) :
    ∃ b off vs, v = .pointer (some ⟨b, off, none⟩) ∧ Reps w ext ι cs vs ∧ (∀ x ∈ vs, x.oneCell' = true) ∧ ∀ i v, vs[i]? = some v → w.cell? ⟨b, off + i, none⟩ = some v ∧ off + i < ext b := by
  cases h with | iptr _ vs b off hr h1 hc => exact ⟨b, off, vs, rfl, hr, h1, hc⟩
theorem rep_slice_inv {w : World} {ext : Nat → Nat} {ι : List Nat} {sz : Nat} {es : List AV} {v : Value} (h : Rep w ext ι (.slice sz es) v) :
    ∃ p cap vs, v = .slice p es.length cap ∧ es.length ≤ cap ∧ (∀ e ∈ es, e.cells.length = sz) ∧ Reps w ext ι (es.flatMap AV.cells) vs ∧ (∀ x ∈ vs, x.oneCell' = true) ∧
      (vs = [] ∨ ∃ b off, p = some ⟨b, off, none⟩ ∧ ∀ i v, vs[i]? = some v → w.cell? ⟨b, off + i, none⟩ = some v ∧ off + i < ext b) := by
  cases h with | slice _ _ p n cap vs hn hc hs hr h1 ha => subst hn; exact ⟨p, cap, vs, rfl, hc, hs, hr, h1, ha⟩
theorem rep_agg_inv {w : World} {ext : Nat → Nat} {ι : List Nat} {cs : List AV} {v : Value} (h : Rep w ext ι (.agg cs) v) : ∃ vs, v = .agg vs ∧ Reps w ext ι cs vs.toList ∧ ∀ x ∈ vs.toList, x.oneCell' = true := by
  cases h with | agg _ vs h1 h2 => exact ⟨vs, rfl, h1, h2⟩

theorem rep_iptr_drop {w : World} {ext : Nat → Nat} {ι : List Nat} {cs : List AV} {b off : Nat} {vs : List Value} (hr : Reps w ext ι cs vs)
    (h1 : ∀ x ∈ vs, x.oneCell' = true) (hc : ∀ i v, vs[i]? = some v → w.cell? ⟨b, off + i, none⟩ = some v ∧ off + i < ext b) (k : Nat) : Rep w ext ι (.iptr (cs.drop k)) (.pointer (some ⟨b, off + k, none⟩)) :=
  .iptr _ _ _ _ (hr.drop k) (fun x hx => h1 x (List.mem_of_mem_drop hx)) fun i v hi => by rw [List.getElem?_drop] at hi; have := hc _ _ hi; rwa [← Nat.add_assoc] at this

theorem sound_nilCheck {x : Operand} (ho : o.op = .nilCheck x) (h : OK G E.an B0 st ρ σ a.tmps) (hs : Sub ρm ρ) (hc : core1 G E o ρm = some ups) (hf : Fit E.an ups) :
    OpGoal G E.an B0 st a o (apply ups ρ) σ := by
  simp only [core1, ho, Option.bind_eq_bind, Option.bind_eq_some_iff] at hc
  obtain ⟨p, hp, hc⟩ := hc
  have hr := opv_rep h rfl hs hp
  split at hc
  · simp at hc; obtain rfl := hc
    obtain ⟨b, _, hv⟩ := rep_ptr_inv hr
    exact goal_plain h hf (c := a.eval x) (by simp [execOp, ho, hv]) hr
  · simp at hc; obtain rfl := hc
    obtain ⟨b, off, vs, hv, _⟩ := rep_iptr_inv hr
    exact goal_plain h hf (c := a.eval x) (by simp [execOp, ho, hv]) hr
  · simp at hc

theorem info_of_cells {P : Program} {t : TypeId} (h : P.cellsOf t ≠ 0) : (P.info? t).isSome = true := by
  unfold Program.cellsOf at h
  cases hi : P.info? t with
  | none => rw [hi] at h; simp at h
  | some i => rfl

theorem sound_fieldAddr {t : TypeId} {x : Operand} {f : Nat} (ho : o.op = .fieldAddr t x f) (h : OK G E.an B0 st ρ σ a.tmps) (hs : Sub ρm ρ) (hc : core1 G E o ρm = some ups) (hf : Fit E.an ups) :
    OpGoal G E.an B0 st a o (apply ups ρ) σ := by
  simp only [core1, ho, Option.bind_eq_bind, Option.bind_eq_some_iff] at hc
  split at hc
  · rename_i fs hu
    rw [Option.bind_eq_some_iff] at hc
    obtain ⟨fd, hfd, hc⟩ := hc
    split at hc
    · simp at hc
    · rename_i hz
      rw [Option.bind_eq_some_iff] at hc
      obtain ⟨p, hp, hc⟩ := hc
      have run : ∀ b off, a.eval x = .pointer (some ⟨b, off, none⟩) → (execOp a.eval o).run G.P st.w = .ok (.value (.pointer (some ⟨b, off + fd.offset, none⟩))) st.w := by
        intro b off he
        simp [execOp, ho, he, Instr.fieldAt, Instr.sureAddr, run_underlying hu, hfd, fieldPlace, sizeOf_run _ (info_of_cells hz), hz, addr_add]
      cases p with
      | loc s off =>
        simp at hc; obtain rfl := hc
        obtain ⟨h1, h2⟩ := ptrOf_loc h rfl hs hp
        exact goal_lptr h hf h2 (run _ _ h1)
      | sh id off =>
        simp at hc; obtain rfl := hc
        obtain ⟨b, hb, he⟩ := rep_ptr_inv (ptrOf_sh h rfl hs hp)
        exact goal_plain h hf (run _ _ he) (.ptr _ _ _ hb)
      | im cs =>
        simp at hc; obtain rfl := hc
        obtain ⟨b, off, vs, he, hr, h1c, hcell⟩ := rep_iptr_inv (ptrOf_im h rfl hs hp)
        exact goal_plain h hf (run _ _ he) (rep_iptr_drop hr h1c hcell _)
  · simp at hc

theorem part_run {P : Program} {t : TypeId} (w : World) {vs : Array Value} {cs : List AV} {ext : Nat → Nat} {ι : List Nat} {v : AV} (ht : tyOk P t = true)
    (hr : Reps w ext ι cs vs.toList) (hone : ∀ x ∈ vs.toList, x.oneCell' = true) (o : Nat) (hcut : cut (aggT P t) cs o (P.cellsOf t) = some v) (w' : World) :
    ∃ c, (part t vs o).run P w' = .ok c w' ∧ Rep w ext ι v c := by
  have hi : (P.info? t).isSome = true := by unfold tyOk at ht; simp only [Bool.and_eq_true] at ht; exact ht.2
  unfold cut at hcut
  dsimp only at hcut
  split at hcut
  · rename_i hlen
    have hdr := (hr.drop o).take (P.cellsOf t)
    have hlen2 := hdr.length
    have hone' : ∀ x ∈ (vs.toList.drop o).take (P.cellsOf t), x.oneCell' = true := fun x hx => hone x (List.mem_of_mem_drop (List.mem_of_mem_take hx))
    unfold joinC at hcut
    cases hagg : aggT P t with
    | true =>
      rw [hagg] at hcut
      simp at hcut; subst hcut
      refine ⟨.agg (vs.extract o (o + P.cellsOf t)), ?_, .agg _ _ (by rw [extract_list]; exact hdr) (by rw [extract_list]; exact hone')⟩
      simp only [part, Sem.run_bind, aggT_run w' ht, Result.andThen_ok, hagg, if_true, sizeOf_run w' hi, Sem.run_pure]
    | false =>
      rw [hagg] at hcut
      simp only [if_false, Bool.false_eq_true] at hcut
      split at hcut
      · rename_i c hl
        split at hcut
        · simp at hcut
        · simp at hcut; subst hcut
          try rw [hl] at hdr
          try rw [hl] at hlen
          have hn1 : P.cellsOf t = 1 := by simpa using hlen.symm
          rw [hn1] at hdr
          generalize hq : (vs.toList.drop o).take 1 = q at *
          cases hdr with
          | cons _ x _ r hx hr' =>
            cases hr'
            have hox : vs[o]? = some x := by
              have : ((vs.toList.drop o).take 1)[0]? = some x := by rw [hq]; rfl
              simpa [List.getElem?_take_of_lt, List.getElem?_drop] using this
            refine ⟨x, ?_, hx⟩
            simp only [part, Sem.run_bind, aggT_run w' ht, Result.andThen_ok, hagg, if_false, Bool.false_eq_true, hox, Sem.run_pure]
      · simp at hcut
  · simp at hcut

theorem sound_field {t : TypeId} {x : Operand} {f : Nat} (ho : o.op = .field t x f) (h : OK G E.an B0 st ρ σ a.tmps) (hs : Sub ρm ρ) (hc : core1 G E o ρm = some ups) (hf : Fit E.an ups) :
    OpGoal G E.an B0 st a o (apply ups ρ) σ := by
  simp only [core1, ho, Option.bind_eq_bind, Option.bind_eq_some_iff] at hc
  obtain ⟨p, hp, hc⟩ := hc
  split at hc
  · rename_i fs cs hu
    rw [Option.bind_eq_some_iff] at hc
    obtain ⟨fd, hfd, hc⟩ := hc
    split at hc
    · simp at hc
    · rename_i hty
      rw [Option.bind_eq_some_iff] at hc
      obtain ⟨v, hv, hc⟩ := hc
      simp at hc; obtain rfl := hc
      obtain ⟨vs, he, hr, hone⟩ := rep_agg_inv (opv_rep h rfl hs hp)
      obtain ⟨c, h1, h2⟩ := part_run st.w (by simpa using hty) hr hone _ hv st.w
      refine goal_plain h hf (c := c) ?_ h2
      simp [execOp, ho, he, Instr.field, run_underlying hu, hfd, asAgg, h1]
  · simp at hc

theorem sound_index {t : TypeId} {x i : Operand} (ho : o.op = .index t x i) (h : OK G E.an B0 st ρ σ a.tmps) (hs : Sub ρm ρ) (hc : core1 G E o ρm = some ups) (hf : Fit E.an ups) :
    OpGoal G E.an B0 st a o (apply ups ρ) σ := by
  simp only [core1, ho, Option.bind_eq_bind, Option.bind_eq_some_iff] at hc
  obtain ⟨j, hj, hc⟩ := hc
  split at hc
  · rename_i k n
    split at hc
    · simp at hc
    · rename_i hn
      rw [Option.bind_eq_some_iff] at hc
      obtain ⟨p, hp, hc⟩ := hc
      split at hc
      · rename_i len e cs hu
        split at hc
        · rename_i hlt
          rw [Option.bind_eq_some_iff] at hc
          obtain ⟨v, hv, hc⟩ := hc
          simp at hc; obtain rfl := hc
          obtain ⟨vs, he, hr, hone⟩ := rep_agg_inv (opv_rep h rfl hs hp)
          have hi := rep_int_inv (opv_rep h rfl hs hj)
          obtain ⟨c, h1, h2⟩ := part_run st.w hlt.2 hr hone _ hv st.w
          have hinfo : (G.P.info? e).isSome = true := by have := hlt.2; unfold tyOk at this; simp only [Bool.and_eq_true] at this; exact this.2
          refine goal_plain h hf (c := c) ?_ h2
          have h0 : 0 ≤ n := by omega
          have hl : n < (len : Int) := by omega
          simp [execOp, ho, he, hi, Instr.index, asIntOf, run_underlying hu, h0, hl, sizeOf_run _ hinfo, h1]
        · simp at hc
      · simp at hc
  · simp at hc

theorem sound_indexAddr {t : TypeId} {x i : Operand} (ho : o.op = .indexAddr t x i) (h : OK G E.an B0 st ρ σ a.tmps) (hs : Sub ρm ρ) (hc : core1 G E o ρm = some ups) (hf : Fit E.an ups) :
    OpGoal G E.an B0 st a o (apply ups ρ) σ := by
  simp only [core1, ho, Option.bind_eq_bind, Option.bind_eq_some_iff] at hc
  obtain ⟨j, hj, hc⟩ := hc
  split at hc
  · rename_i k n
    have hi := rep_int_inv (opv_rep h rfl hs hj)
    split at hc
    · simp at hc
    · rename_i hn
      have h0 : 0 ≤ n := by omega
      split at hc
      · rename_i e hu
        rw [Option.bind_eq_some_iff] at hc
        obtain ⟨p, hp, hc⟩ := hc
        split at hc
        · rename_i sz es
          split at hc
          · simp at hc
          · rename_i hsz
            rw [Option.bind_eq_some_iff] at hc
            obtain ⟨ev, hev, hc⟩ := hc
            simp at hc; obtain rfl := hc
            have hsz1 : sz = G.P.cellsOf e := by omega
            have hsz2 : sz ≠ 0 := by omega
            obtain ⟨pa, cap, vs, he, hcap, hes, hr, h1c, hadr⟩ := rep_slice_inv (opv_rep h rfl hs hp)
            have hlt : n.toNat < es.length := (List.getElem?_eq_some_iff.1 hev).1
            have hmem : ev ∈ es := List.mem_of_getElem? hev
            have hvl : vs.length = es.length * sz := by rw [← hr.length, flat_len hes]
            have hne : vs ≠ [] := by
              intro hvs
              rw [hvs] at hvl
              have h1 : 0 < es.length * sz := Nat.mul_pos (by omega) (by omega)
              simp only [List.length_nil] at hvl
              omega
            obtain ⟨b, off, rfl, hcell⟩ := hadr.resolve_left hne
            have hd : ((es.flatMap AV.cells).drop (n.toNat * sz)).take sz = ev.cells := by
              rw [flat_drop hes, List.drop_eq_getElem_cons hlt]
              have : es[n.toNat] = ev := (List.getElem?_eq_some_iff.1 hev).2
              rw [this, List.flatMap_cons, List.take_append_of_le_length (by rw [hes ev hmem]; exact Nat.le_refl _), List.take_of_length_le (by rw [hes ev hmem]; exact Nat.le_refl _)]
            refine goal_plain h hf (c := .pointer (some ⟨b, off + n.toNat * sz, none⟩)) ?_ (.iptr _ ((vs.drop (n.toNat * sz)).take sz) _ _ ?_ (fun x hx => h1c x (List.mem_of_mem_drop (List.mem_of_mem_take hx))) ?_)
            · have hl : n < (es.length : Int) := by omega
              have hinfo := info_of_cells (P := G.P) (t := e) (by omega)
              simp [execOp, ho, he, hi, Instr.indexAt, asIntOf, run_underlying hu, h0, hl, sizeOf_run _ hinfo, addr_add, hsz1]
            · have := (hr.drop (n.toNat * sz)).take sz
              rwa [hd] at this
            · intro i v hv
              have hlt' := (List.getElem?_eq_some_iff.1 hv).1
              rw [List.getElem?_take_of_lt (by simp at hlt'; omega), List.getElem?_drop] at hv
              have := hcell _ _ hv
              rwa [← Nat.add_assoc] at this
        · simp at hc
      · rename_i len e hu
        split at hc
        · rename_i hcond
          obtain ⟨hlt, hlen1, hpos⟩ := hcond
          rw [Option.bind_eq_some_iff] at hc
          obtain ⟨p, hp, hc⟩ := hc
          have run : ∀ b off, a.eval x = .pointer (some ⟨b, off, none⟩) → (execOp a.eval o).run G.P st.w = .ok (.value (.pointer (some ⟨b, off + n.toNat * G.P.cellsOf e, none⟩))) st.w := by
            intro b off he
            have hl : n < (len : Int) := by omega
            have hnl : ¬ len ≤ 1 := by omega
            have hinfo := info_of_cells (P := G.P) (t := e) (by omega)
            simp [execOp, ho, he, hi, Instr.indexAt, asIntOf, Instr.sureAddr, run_underlying hu, h0, hl, hnl, sizeOf_run _ hinfo, addr_add]
          cases p with
          | loc s off =>
            simp at hc; obtain rfl := hc
            obtain ⟨h1, h2⟩ := ptrOf_loc h rfl hs hp
            exact goal_lptr h hf h2 (run _ _ h1)
          | sh id off =>
            simp at hc; obtain rfl := hc
            obtain ⟨b, hb, he⟩ := rep_ptr_inv (ptrOf_sh h rfl hs hp)
            exact goal_plain h hf (run _ _ he) (.ptr _ _ _ hb)
          | im cs =>
            simp at hc; obtain rfl := hc
            obtain ⟨b, off, vs, he, hr, h1c, hcell⟩ := rep_iptr_inv (ptrOf_im h rfl hs hp)
            exact goal_plain h hf (run _ _ he) (rep_iptr_drop hr h1c hcell _)
        · simp at hc
      · simp at hc
  · simp at hc

end Go.AI

/- The abstract machine: worlds that turn at one block. -/
namespace Go.AI
set_option linter.unusedVariables false
set_option linter.unusedSimpArgs false
open Go

variable {G : Prg} {an : Ann} {E : EE} {B0 : Nat → Prop} {st : St} {ρ ρm : Env} {σ σ' : Sig} {ups : List (Nat × Slot)} {a : Act} {o : Oper} {tmps : Array Value}

theorem cell_of_heap {w w' : World} {b : Nat} (h : w'.heap[b]? = w.heap[b]?) (o : Nat) : w'.cell? ⟨b, o, none⟩ = w.cell? ⟨b, o, none⟩ := by simp [World.cell?, h]

theorem cell_lt {w : World} {b o : Nat} {v : Value} (h : w.cell? ⟨b, o, none⟩ = some v) : b < w.heap.size := by
  unfold World.cell? at h
  cases hh : w.heap[b]? with
  | none => simp [hh] at h
  | some x => exact (Array.getElem?_eq_some_iff.1 hh).1

/-- New blocks alone. -/
structure Newer (w w' : World) : Prop where
  size : w.heap.size ≤ w'.heap.size
  blk : ∀ b, b < w.heap.size → w'.heap[b]? = w.heap[b]?
  os : w'.os = w.os
  tape : w'.tape = w.tape
  output : w'.output = w.output

theorem Newer.alloc (w : World) (o : Obj) : Newer w (w.alloc o) :=
  ⟨by simp, fun b hb => heap_alloc_old w o b hb, rfl, rfl, rfl⟩
theorem Newer.drew (w : World) : Newer w w.drew := ⟨Nat.le_refl _, fun _ _ => rfl, rfl, rfl, rfl⟩
theorem Newer.refl (w : World) : Newer w w := ⟨Nat.le_refl _, fun _ _ => rfl, rfl, rfl, rfl⟩
theorem Newer.trans {a b c : World} (h : Newer a b) (k : Newer b c) : Newer a c :=
  ⟨Nat.le_trans h.size k.size, fun x hx => (k.blk x (Nat.lt_of_lt_of_le hx h.size)).trans (h.blk x hx), k.os.trans h.os, k.tape.trans h.tape, k.output.trans h.output⟩

theorem ext_lt {w : World} {ext : Nat → Nat} {ι : List Nat} {S : Nat → Prop} {SL : Nat → Nat → Option Nat} (h : SR G w ext ι S SL σ) {b o : Nat} (ho : o < ext b) : b < w.heap.size := by
  rcases Nat.lt_or_ge b w.heap.size with h' | h'
  · exact h'
  · rw [h.fresh b h'] at ho; omega

theorem Newer.grow {w w' : World} {ext ext' : Nat → Nat} {ι : List Nat} {S : Nat → Prop} {SL : Nat → Nat → Option Nat} (hn : Newer w w') (hs : SR G w ext ι S SL σ) (he : ∀ b, b < w.heap.size → ext' b = ext b) : Grow w ext ι w' ext' ι where
  cell := fun b o v ho hc => by rw [cell_of_heap (hn.blk b (ext_lt hs ho))]; exact hc
  ext := fun b => by
    rcases Nat.lt_or_ge b w.heap.size with h' | h'
    · rw [he b h']; exact Nat.le_refl _
    · rw [hs.fresh b h']; exact Nat.zero_le _
  pre := List.prefix_refl _

/-- New blocks alone: all stays. -/
theorem OK.newer (h : OK G an B0 st ρ σ tmps) {w' : World} {ext' : Nat → Nat} (hn : Newer st.w w') (he : ∀ b, b < st.w.heap.size → ext' b = st.ext b) (hf : ∀ b, w'.heap.size ≤ b → ext' b = 0) :
    OK G an B0 { st with w := w', ext := ext' } ρ σ tmps ∧ Step B0 st { st with w := w', ext := ext' } := by
  have hg := hn.grow h.sr he
  refine ⟨⟨h.size, fun t => ?_, h.fits, h.lptr, fun p b hp => ?_, h.inj, fun b hb => Nat.lt_of_lt_of_le (h.base b hb) hn.size, h.out, h.sr.keep hg hn.size (fun b hb => ?_) hf, h.larr⟩, ⟨hg, hn.size, fun b hb => ?_, hn.os, hn.tape, hn.output⟩⟩
  · refine (h.slot t).keep hg (fun hl => ?_) (fun i hi b hb => ?_)
    · have := (h.priv (.box t) (st.L.β t) ⟨hl, rfl⟩).2.1
      exact ⟨hn.blk _ this, he _ this⟩
    · have := (h.priv (.own t i) b ⟨hi, hb⟩).2.1
      exact ⟨hn.blk _ this, he _ this⟩
  · have := h.priv p b hp
    exact ⟨this.1, Nat.lt_of_lt_of_le this.2.1 hn.size, this.2.2⟩
  · have := h.sr.small b hb
    exact ⟨hn.blk _ this, he _ this⟩
  · have h' := h.base b hb
    exact ⟨hn.blk _ h', he _ h'⟩

/-- One block turns, which is a private box or a row of this frame's own (or a shared one, see below): what is elsewhere stays. -/
structure Turn (w w' : World) (k : Nat) : Prop where
  size : w'.heap.size = w.heap.size
  blk : ∀ b, b ≠ k → w'.heap[b]? = w.heap[b]?
  os : w'.os = w.os
  tape : w'.tape = w.tape
  output : w'.output = w.output

theorem Turn.setRow (w : World) (k : Nat) (cs : Array Value) : Turn w (w.setRow k cs) k :=
  ⟨by simp [World.setRow], fun b hb => setRow_other w k b cs hb, rfl, rfl, rfl⟩

theorem Turn.grow {w w' : World} {ext ext' : Nat → Nat} {ι : List Nat} {k : Nat} (ht : Turn w w' k) (he : ∀ b, b ≠ k → ext' b = ext b) (hk : ext k ≤ ext' k)
    (hc : ∀ o v, o < ext k → w.cell? ⟨k, o, none⟩ = some v → w'.cell? ⟨k, o, none⟩ = some v) : Grow w ext ι w' ext' ι where
  cell := fun b o v ho h => by
    by_cases hb : b = k
    · subst hb; exact hc o v ho h
    · rw [cell_of_heap (ht.blk b hb)]; exact h
  ext := fun b => by
    by_cases hb : b = k
    · subst hb; exact hk
    · rw [he b hb]; exact Nat.le_refl _
  pre := List.prefix_refl _

theorem SR.turn {w w' : World} {ext ext' : Nat → Nat} {ι : List Nat} {S : Nat → Prop} {SL : Nat → Nat → Option Nat} {k : Nat} (h : SR G w ext ι S SL σ) (hg : Grow w ext ι w' ext' ι) (ht : Turn w w' k)
    (he : ∀ b, b ≠ k → ext' b = ext b) (hlt : k < w.heap.size) (hS : ¬ S k) : SR G w' ext' ι S SL σ :=
  h.keep hg (by rw [ht.size]; exact Nat.le_refl _) (fun b hb => by
    have : b ≠ k := by rintro rfl; exact hS hb
    exact ⟨ht.blk b this, he b this⟩) (fun b hb => by
    have : b ≠ k := by rintro rfl; rw [ht.size] at hb; omega
    rw [he b this]; exact h.fresh b (by rw [← ht.size]; exact hb))

theorem Step.turn {w' : World} {ext' : Nat → Nat} {L : Lay} {k : Nat} (hg : Grow st.w st.ext st.ι w' ext' st.ι) (ht : Turn st.w w' k) (he : ∀ b, b ≠ k → ext' b = st.ext b) (hB : ¬ B0 k) :
    Step B0 st { st with w := w', ext := ext', L := L } where
  grow := hg
  size := by rw [ht.size]; exact Nat.le_refl _
  blk := fun b hb => by
    have : b ≠ k := by rintro rfl; exact hB hb
    exact ⟨ht.blk b this, he b this⟩
  os := ht.os
  tape := ht.tape
  output := ht.output

theorem cell_row {w : World} {k : Nat} {vs : Array Value} {e : TypeId} {fr : Nat × Nat} (h : w.heap[k]? = some (.cells vs e fr)) (o : Nat) : w.cell? ⟨k, o, none⟩ = vs[o]? := by
  simp [World.cell?, h]

/-- Slots that do not stand on the block that turns. -/
theorem OK.slotTurn (h : OK G an B0 st ρ σ tmps) {w' : World} {ext' : Nat → Nat} {k : Nat} (hg : Grow st.w st.ext st.ι w' ext' st.ι) (ht : Turn st.w w' k) (he : ∀ b, b ≠ k → ext' b = st.ext b)
    {t : Nat} (hn : ∀ p, p.slot = t → ¬ Has st.L ρ p k) : SlotOK w' ext' st.ι st.L t (ρ t) (tmps.getD t undef) := by
  refine (h.slot t).keep hg (fun hl => ?_) (fun i hi b hb => ?_)
  · have : st.L.β t ≠ k := by
      intro e
      exact hn (.box t) rfl ⟨hl, e⟩
    exact ⟨ht.blk _ this, he _ this⟩
  · have : b ≠ k := by
      rintro rfl
      exact hn (.own t i) rfl ⟨hi, hb⟩
    exact ⟨ht.blk _ this, he _ this⟩

theorem OK.top (h : OK G an B0 st ρ σ tmps) : ¬ B0 st.w.heap.size := fun hb => by have := h.base _ hb; omega

/-- A block of this frame's own turns that nobody stands on. -/
theorem OK.turn (h : OK G an B0 st ρ σ tmps) {w' : World} {ext' : Nat → Nat} {k : Nat} (hg : Grow st.w st.ext st.ι w' ext' st.ι) (ht : Turn st.w w' k) (he : ∀ b, b ≠ k → ext' b = st.ext b)
    (hn : ∀ p, ¬ Has st.L ρ p k) (hk : ¬ B0 k ∧ k < st.w.heap.size ∧ ¬ st.S k) : OK G an B0 { st with w := w', ext := ext' } ρ σ tmps ∧ Step B0 st { st with w := w', ext := ext' } :=
  ⟨⟨h.size, fun t => h.slotTurn hg ht he fun p _ => hn p, h.fits, h.lptr, fun p b hp => by have := h.priv p b hp; exact ⟨this.1, by simpa [ht.size] using this.2.1, this.2.2⟩, h.inj, by simpa [ht.size] using h.base, h.out,
    h.sr.turn hg ht he hk.2.1 hk.2.2, h.larr⟩, Step.turn hg ht he hk.1⟩

end Go.AI

/- The abstract machine: slices cut, built and appended to; structs built. -/
namespace Go.AI
set_option linter.unusedVariables false
set_option linter.unusedSimpArgs false
open Go

variable {G : Prg} {an : Ann} {E : EE} {B0 : Nat → Prop} {st : St} {ρ ρm : Env} {σ σ' : Sig} {ups : List (Nat × Slot)} {a : Act} {o : Oper} {tmps : Array Value}

theorem bound_run {P : Program} {w : World} {k : IntKind} {n : Int} {y : Nat} {code : BoundsCode} (h0 : 0 ≤ n) (h1 : n.toNat ≤ y) : (Instr.sliceBound (.int k n) y code).run P w = .ok n.toNat w := by
  have : n ≤ (y : Int) := by omega
  simp [Instr.sliceBound, asIntOf, h0, this]

theorem sound_slice {t : TypeId} {x : Operand} {lo hi mx : Option Operand} (ho : o.op = .slice t x lo hi mx) (h : OK G E.an B0 st ρ σ a.tmps) (hs : Sub ρm ρ) (hc : core1 G E o ρm = some ups) (hf : Fit E.an ups) :
    OpGoal G E.an B0 st a o (apply ups ρ) σ := by
  simp only [core1, ho, Option.bind_eq_bind, Option.bind_eq_some_iff] at hc
  obtain ⟨p, hp, hc⟩ := hc
  split at hc
  · rename_i e sz es hu
    split at hc
    · simp at hc
    · rename_i hsz
      simp only [Option.bind_eq_some_iff] at hc
      obtain ⟨l, hl, hh, hhh, m, hm, hc⟩ := hc
      split at hc
      · rename_i hcond
        obtain ⟨c1, c2, c3, c4⟩ := hcond
        simp at hc; obtain rfl := hc
        obtain ⟨pa, cap, vs, he, hcap, hes, hr, h1c, hadr⟩ := rep_slice_inv (opv_rep h rfl hs hp)
        have hsz' : sz = G.P.cellsOf e := by omega
        -- the bounds, as the model reckons them
        have bnd : ∀ (y : Option Operand) (d v : Nat), (match y with | none => some d | some y => match opv G ρm 0 y with | some (.int _ n) => if 0 ≤ n then some n.toNat else none | _ => none) = some v →
            (y = none ∧ v = d) ∨ ∃ y' k n, y = some y' ∧ a.eval y' = .int k n ∧ 0 ≤ n ∧ n.toNat = v := by
          intro y d v hv
          cases y with
          | none => simp at hv; exact .inl ⟨rfl, hv.symm⟩
          | some y =>
            right
            dsimp only at hv
            split at hv
            · rename_i k n hn
              split at hv
              · rename_i h0
                simp at hv
                exact ⟨y, k, n, rfl, rep_int_inv (opv_rep h rfl hs hn), h0, hv⟩
              · simp at hv
            · simp at hv
        obtain ⟨M, hM⟩ : ∃ M, M = if mx.isSome then m else cap := ⟨_, rfl⟩
        have hMm : hh ≤ M := by rw [hM]; split <;> omega
        have run : G.P.info? e ≠ none → (execOp a.eval o).run G.P st.w = .ok (.value (.slice (if M = l then pa else pa.map (·.add (l * sz))) (hh - l) (M - l))) st.w := by
          intro hie
          have hsize : (sizeOf e).run G.P st.w = .ok sz st.w := by rw [hsz']; exact sizeOf_run _ (Option.isSome_iff_ne_none.2 hie)
          have hb : (Instr.sliceBounds true es.length cap (lo.map a.eval) (hi.map a.eval) (mx.map a.eval)).run G.P st.w = .ok (l, hh, M) st.w := by
            rcases bnd mx hh m hm with ⟨rfl, rfl⟩ | ⟨y, k, n, rfl, e1, e2, e3⟩
            · simp at hM
              rcases bnd hi es.length m hhh with ⟨rfl, rfl⟩ | ⟨y', k', n', rfl, e1', e2', e3'⟩
              · rcases bnd lo 0 l hl with ⟨rfl, rfl⟩ | ⟨y'', k'', n'', rfl, e1'', e2'', e3''⟩
                · simp [Instr.sliceBounds, hM]
                · simp [Instr.sliceBounds, hM, e1'', bound_run e2'' (show n''.toNat ≤ es.length by omega), e3'']
              · rcases bnd lo 0 l hl with ⟨rfl, rfl⟩ | ⟨y'', k'', n'', rfl, e1'', e2'', e3''⟩
                · simp [Instr.sliceBounds, hM, e1', bound_run e2' (show n'.toNat ≤ cap by omega), e3']
                · simp [Instr.sliceBounds, hM, e1', e1'', bound_run e2' (show n'.toNat ≤ cap by omega), e3', bound_run e2'' (show n''.toNat ≤ m by omega), e3'']
            · simp at hM
              rcases bnd hi es.length hh hhh with ⟨rfl, rfl⟩ | ⟨y', k', n', rfl, e1', e2', e3'⟩
              · simp at c4
              · rcases bnd lo 0 l hl with ⟨rfl, rfl⟩ | ⟨y'', k'', n'', rfl, e1'', e2'', e3''⟩
                · simp [Instr.sliceBounds, hM, e1, bound_run e2 (show n.toNat ≤ cap by omega), e3, e1', bound_run e2' (show n'.toNat ≤ m by omega), e3']
                · simp [Instr.sliceBounds, hM, e1, bound_run e2 (show n.toNat ≤ cap by omega), e3, e1', e1'', bound_run e2' (show n'.toNat ≤ m by omega), e3', bound_run e2'' (show n''.toNat ≤ hh by omega), e3'']
          simp [execOp, ho, he, Instr.sliceAt, Instr.slice, run_underlying hu, hb, hsize]
        have hie : G.P.info? e ≠ none := by
          have := info_of_cells (P := G.P) (t := e) (by omega)
          exact Option.isSome_iff_ne_none.1 this
        have hvl : vs.length = es.length * sz := by rw [← hr.length, flat_len hes]
        refine goal_put (g := fun _ => none) h hf (run hie) (.slice sz _ _ _ _ ((vs.drop (l * sz)).take ((hh - l) * sz)) ?_ ?_ ?_ ?_ (fun x hx => h1c x (List.mem_of_mem_drop (List.mem_of_mem_take hx))) ?_) (fun i hi' aa xx ha hx => ?_) (fun i _ b hb => by cases hb) (fun i _ b hb => by cases hb) (fun i _ j _ b hb => by cases hb)
        · simp; omega
        · omega
        · intro x hx
          exact hes x (List.mem_of_mem_drop (List.mem_of_mem_take hx))
        · have := (hr.drop (l * sz)).take ((hh - l) * sz)
          rw [flat_drop hes, flat_take (fun x hx => hes x (List.mem_of_mem_drop hx))] at this
          exact this
        · by_cases hlh : l = hh
          · left; rw [hlh]; simp
          · by_cases hz : sz = 0
            · left; rw [hz]; simp
            · right
              have hne : vs ≠ [] := by
                intro hv
                rw [hv] at hvl
                have : 0 < es.length * sz := Nat.mul_pos (by omega) (by omega)
                simp at hvl; omega
              obtain ⟨b, off, rfl, hcell⟩ := hadr.resolve_left hne
              refine ⟨b, off + l * sz, ?_, fun i v hv => ?_⟩
              · rw [if_neg (by omega)]; simp [addr_add]
              · have hlt' := (List.getElem?_eq_some_iff.1 hv).1
                rw [List.getElem?_take_of_lt (by simp at hlt'; omega), List.getElem?_drop] at hv
                have := hcell _ _ hv
                rwa [← Nat.add_assoc] at this
        · split at hi'
          · rename_i hmx
            simp at hi'; subst hi'
            intro q n' cap' hxx
            subst hxx
            simp [Value.cells] at hx
            rw [hM, if_pos hmx] at hx
            omega
          · cases hi'
      · simp at hc
  · simp at hc


theorem len_flat {vs : List Value} {es : List AV} {sz : Nat} {w : World} {ext : Nat → Nat} {ι : List Nat} (hes : ∀ e ∈ es, e.cells.length = sz) (hr : Reps w ext ι (es.flatMap AV.cells) vs) : vs.length = es.length * sz := by
  rw [← hr.length, flat_len hes]

/-- append of nothing. -/
theorem run_append_zero {P : Program} (w : World) (t ty e : TypeId) (i : TypeInfo) (ht : P.underlying t = some (.slice e)) (hi : P.info? e = some i) (base pa : Option Addr) (n cap c : Nat) (hn : n ≤ cap) :
    (Builtin.append_ #[t, t] ty #[.slice base n cap, .slice pa 0 c]).run P w = .ok (.slice base n cap) w := by
  cases base <;> cases pa <;> simp [Builtin.append_, run_underlying ht, sizeOf, typeInfo, hi, Builtin.lenOf, Builtin.firstCells, hn, storeCells, loadCells, loadCellsFrom]

theorem rep_slice_mk {w : World} {ext : Nat → Nat} {ι : List Nat} {sz : Nat} {es : List AV} {b n cap : Nat} {vs : Array Value} {e : TypeId} {fr : Nat × Nat} {us : List Value} (hn : n = es.length) (hc : n ≤ cap) (hes : ∀ e ∈ es, e.cells.length = sz)
    (hr : Reps w ext ι (es.flatMap AV.cells) us) (h1 : ∀ x ∈ us, x.oneCell' = true) (hh : w.heap[b]? = some (.cells vs e fr)) (hu : vs.toList.take (n * sz) = us) (he : n * sz ≤ ext b) : Rep w ext ι (.slice sz es) (.slice (some ⟨b, 0, none⟩) n cap) := by
  have hl := len_flat hes hr
  refine .slice _ _ _ _ _ us hn hc hes hr h1 (.inr ⟨b, 0, rfl, fun i v hv => ?_⟩)
  have hlt := (List.getElem?_eq_some_iff.1 hv).1
  rw [cell_row hh, Nat.zero_add]
  rw [← hu, List.getElem?_take_of_lt (by rw [hl, ← hn] at hlt; exact hlt)] at hv
  exact ⟨by simpa using hv, by rw [hl, ← hn] at hlt; omega⟩

theorem zeroC_info {P : Program} {t : TypeId} {cs : List AV} (h : zeroC P t = some cs) : ∃ i z, P.info? t = some i ∧ i.zero = some z ∧ tcells P 6 t z = some cs := by
  unfold zeroC at h
  rw [Option.bind_eq_some_iff] at h
  obtain ⟨z, h1, h2⟩ := h
  rw [Option.bind_eq_some_iff] at h1
  obtain ⟨i, h1, h3⟩ := h1
  exact ⟨i, z, h1, h3, h2⟩

/-- The rest of an append: what holds of the frame once the slice is there. -/
theorem goal_append {t : TypeId} {x : Operand} {sz : Nat} {es es' : List AV} {v : Value} {st' : St} {g : Option Nat}
    (h' : OK G E.an B0 st' (apply (clr ρm x) ρ) σ a.tmps) (hf : Fit E.an (puts o.dst (.val (.slice sz (es ++ es')) [0])))
    (hr : (execOp a.eval o).run G.P st.w = .ok (.value v) st'.w) (hv : Rep st'.w st'.ext st'.ι (.slice sz (es ++ es')) v)
    (ho : OwnC st'.w st'.ext (.slice sz (es ++ es')) v g) (hp : ∀ b, g = some b → ¬ B0 b ∧ b < st'.w.heap.size ∧ ¬ st'.S b) (hn : ∀ b, g = some b → ∀ p, ¬ Has st'.L (apply (clr ρm x) ρ) p b)
    (hstep : Step B0 st st') : OpGoal G E.an B0 st a o (apply (clr ρm x ++ puts o.dst (.val (.slice sz (es ++ es')) [0])) ρ) σ := by
  rw [apply_append]
  obtain ⟨pa, n, cap, hvv⟩ : ∃ pa n cap, v = .slice pa n cap := by cases hv; exact ⟨_, _, _, rfl⟩
  cases hd : o.dst with
  | none =>
    refine ⟨v, st', .inl hr, ?_, hstep⟩
    simpa [puts, apply, hd, Act.put] using h'
  | some d =>
    obtain ⟨h1, h2⟩ := hf (d, .val (.slice sz (es ++ es')) [0]) (by simp [puts, hd])
    have hL := h'.put (ow := [0]) h1 (fit_val h2) (fun _ => g) hv (fun i hi aa xx ha hx => ?_) (fun i _ b hb => hp b hb) (fun i _ b hb p _ => hn b hb p) (fun i hi j hj b _ _ => (List.mem_singleton.1 hi).trans (List.mem_singleton.1 hj).symm)
    · refine ⟨v, { st' with L := st'.L.setγ d fun _ => g }, .inl hr, ?_, ⟨hstep.grow, hstep.size, hstep.blk, hstep.os, hstep.tape, hstep.output⟩⟩
      simpa [puts, apply, hd, put_tmps] using hL
    · simp at hi; subst hi
      simp [AV.cells] at ha; subst ha
      rw [hvv] at hx
      simp [Value.cells] at hx; subst hx
      rw [hvv] at ho
      exact ho


/-- What the first operand of an append owns. -/
theorem own_of {t : TypeId} {x : Operand} {sz : Nat} {es : List AV} (h : OK G an B0 st ρ σ a.tmps) (hs : Sub ρm ρ) (hv : opv G ρm t x = some (.slice sz es)) (ho : (opo ρm x).contains 0 = true) :
    OK G an B0 st (apply (clr ρm x) ρ) σ a.tmps ∧ ∃ g, OwnC st.w st.ext (.slice sz es) (a.eval x) g ∧ (∀ b, g = some b → ¬ B0 b ∧ b < st.w.heap.size ∧ ¬ st.S b) ∧
      (∀ b, g = some b → ∀ p, ¬ Has st.L (apply (clr ρm x) ρ) p b) := by
  cases x with
  | tmp s =>
    simp only [opv] at hv
    split at hv
    · rename_i v' ow hρ
      simp at hv; subst hv
      have hρ' := hs.val hρ (by simp)
      have hc : clr ρm (.tmp s) = [(s, .val (.slice sz es) [])] := by simp [clr, hρ]
      have hoo : opo ρm (.tmp s) = ow := by simp [opo, hρ]
      rw [hoo] at ho
      have h0 : 0 ∈ ow := by simpa using ho
      rw [hc]
      have hsl := h.slot s
      rw [hρ'] at hsl
      obtain ⟨pa, cap, vs, he, _⟩ := rep_slice_inv hsl.1
      have hplace : ∀ b, st.L.γ s 0 = some b → Has st.L ρ (.own s 0) b := fun b hb => ⟨by rw [hρ']; exact h0, hb⟩
      refine ⟨h.clear (.inl ⟨_, ow, [], hρ', rfl, fun _ hi => by cases hi⟩), st.L.γ s 0, ?_, fun b hb => h.priv _ _ (hplace b hb), fun b hb p hp => ?_⟩
      · have := hsl.2 0 h0 (.slice sz es) (a.tmps.getD s undef) (by simp [AV.cells]) (by rw [he]; simp [Value.cells])
        simpa [Act.eval] using this
      · obtain ⟨k1, k2⟩ := has_clear hρ' hp
        exact k2 0 (h.inj _ _ _ k1 (hplace b hb))
    · simp at hv
  | const c =>
    refine ⟨by simpa [clr, apply] using h, none, ?_, fun b hb => (by cases hb), fun b hb => (by cases hb)⟩
    unfold opo at ho
    split at ho
    · rename_i h'; cases h'
    · rename_i h'
      injection h' with h'
      subst h'
      intro p n cap hxx
      simp [Act.eval] at hxx
      omega
    · simp at ho
  | global g => simp [opo] at ho
  | func f => simp [opo] at ho

theorem run_append_own {P : Program} (w : World) (t ty e et : TypeId) (i : TypeInfo) (ht : P.underlying t = some (.slice e)) (hi : P.info? e = some i)
    (g sLen sCap : Nat) (cur : Array Value) (hg : w.heap[g]? = some (.cells cur et (0, 0)))
    (a : Addr) (m c : Nat) (news : List Value) (hl : news.length = m * i.size) (hnews : ∀ j u, news[j]? = some u → w.cell? (a.add j) = some u) (h1 : ∀ u ∈ news, u.oneCell' = true)
    (hroom : sLen + m ≤ sCap) (hfit : sLen * i.size + news.length ≤ cur.size) :
    (Builtin.append_ #[t, t] ty #[.slice (some ⟨g, 0, none⟩) sLen sCap, .slice (some a) m c]).run P w =
      .ok (.slice (some ⟨g, 0, none⟩) (sLen + m) sCap) (w.setRow g (cur.toList.take (sLen * i.size) ++ news ++ cur.toList.drop (sLen * i.size + news.length)).toArray) := by
  have hf := run_firstCells_some (P := P) w i.size m a m c news hl hnews
  have hst := run_storeCells_at P g (sLen * i.size) et news 0 cur w hg (by simpa using hfit) h1
  simp only [Nat.add_zero] at hst
  simp [Builtin.append_, run_underlying ht, sizeOf, typeInfo, hi, Builtin.lenOf, hroom, hf, Addr.add_lit, hst]

theorem flatMap_append_cells (x y : List AV) : (x ++ y).flatMap AV.cells = x.flatMap AV.cells ++ y.flatMap AV.cells := by simp

theorem sound_append {args : Array Operand} {tys : Array TypeId} (ho : o.op = .call { callee := .builtin .append, args := args, argTypes := tys }) (h : OK G E.an B0 st ρ σ a.tmps) (hs : Sub ρm ρ) (hc : core1 G E o ρm = some ups) (hf : Fit E.an ups) :
    OpGoal G E.an B0 st a o (apply ups ρ) σ := by
  simp only [core1, ho, Option.bind_eq_bind, Option.bind_eq_some_iff] at hc
  split at hc
  · rename_i x y tx ty hargs htys
    split at hc
    · rename_i e e' hu hu'
      rw [Option.bind_eq_some_iff] at hc
      obtain ⟨p, hp, hc⟩ := hc
      rw [Option.bind_eq_some_iff] at hc
      obtain ⟨q, hq, hc⟩ := hc
      split at hc
      · rename_i sz es sz' es'
        split at hc
        · rename_i hcond
          obtain ⟨hxy, hsz, hsz', hpos, hown, hlen, hb1, hb0, hzc⟩ := hcond
          simp at hc; obtain rfl := hc
          subst hxy; obtain rfl := hsz'.symm
          rw [Option.map_eq_some_iff] at hzc
          obtain ⟨zc, hzc, hzl⟩ := hzc
          obtain ⟨i, z, hi, hz, hzt⟩ := zeroC_info hzc
          have hzs : z.cells.size = sz := by
            have := (tcells_rep (w := st.w) (ext := st.ext) (ι := st.ι) _ _ _ _ hzt).1.length
            rw [hzl] at this; simpa using this.symm
          have hisz : i.size = sz := by rw [hsz]; simp [Program.cellsOf, hi]
          have hib : i.bytes ≤ 1024 := by simpa [hi] using hb1
          have hargs' : args = #[x, y] := by cases args; simp at hargs; rw [hargs]
          have htys' : tys = #[tx, tx] := by cases tys; simp at htys; rw [htys]
          have run : ∀ v w', (Builtin.append_ #[tx, tx] o.type #[a.eval x, a.eval y]).run G.P st.w = .ok v w' → (execOp a.eval o).run G.P st.w = .ok (.value v) w' := by
            intro v w' hr
            simp [execOp, ho, hargs', htys', resolve, invoke, builtin, hr]
          obtain ⟨pa, cap, vs, he, hcap, hes, hr, h1c, hadr⟩ := rep_slice_inv (opv_rep h rfl hs hp)
          obtain ⟨pa', cap', vs', he', hcap', hes', hr', hone', hadr'⟩ := rep_slice_inv (opv_rep h rfl hs hq)
          obtain ⟨h1, g, hg1, hg2, hg3⟩ := own_of h hs hp hown
          have hfit : Fit E.an (puts o.dst (.val (.slice sz (es ++ es')) [0])) := fun u hu => hf u (List.mem_append_right _ hu)
          have hvl := len_flat hes hr
          have hvl' := len_flat hes' hr'
          have hess : ∀ e ∈ es ++ es', e.cells.length = sz := fun x hx => by
            rcases List.mem_append.1 hx with hx | hx
            · exact hes x hx
            · exact hes' x hx
          by_cases hm : es' = []
          · subst hm
            refine goal_append (st' := st) (g := g) (v := a.eval x) (t := tx) (x := x) h1 hfit (run _ _ ?_) ?_ ?_ hg2 hg3 (Step.refl _ _)
            · rw [he, he']; exact run_append_zero st.w tx o.type e i hu hi pa pa' es.length cap cap' hcap
            · simpa using opv_rep h rfl hs hp
            · simpa using hg1
          · have hm' : 0 < es'.length := List.length_pos_iff.2 hm
            have hnb : (es.length + es'.length) * i.bytes ≤ 140737488355328 :=
              Nat.le_trans (Nat.mul_le_mul hlen hib) (by decide)
            have hne' : vs' ≠ [] := by
              intro hv; rw [hv] at hvl'
              have : 0 < es'.length * sz := Nat.mul_pos hm' hpos
              simp at hvl'; omega
            obtain ⟨b', off', rfl, hcell'⟩ := hadr'.resolve_left hne'
            have hnews : ∀ j u, vs'[j]? = some u → st.w.cell? ((⟨b', off', none⟩ : Addr).add j) = some u := fun j u hu => by rw [addr_add]; exact (hcell' j u hu).1
            have hl' : vs'.length = es'.length * i.size := by rw [hisz]; exact hvl'
            -- a new row
            have grown : cap < es.length + es'.length → OpGoal G E.an B0 st a o (apply (clr ρm x ++ puts o.dst (.val (.slice sz (es ++ es')) [0])) ρ) σ := by
              intro hgr
              have hrun : ∃ C cs, (Builtin.append_ #[tx, tx] o.type #[a.eval x, a.eval y]).run G.P st.w = .ok (.slice (some ⟨st.w.heap.size, 0, none⟩) (es.length + es'.length) C) (st.w.drew.alloc (.cells cs e)) ∧
                  es.length + es'.length ≤ C ∧ C * sz ≤ cs.size ∧ cs.toList.take ((es.length + es'.length) * sz) = vs ++ vs' := by
                have hC := grownCap_ge st.w (es.length + es'.length) cap e
                have hsize : ∀ (front : List Value), front.length = (es.length + es'.length) * sz → (grownCap st.w (es.length + es'.length) cap e) * sz ≤ (front.toArray ++ Builtin.zeroCells z.cells (grownCap st.w (es.length + es'.length) cap e - (es.length + es'.length))).size := by
                  intro front hfr
                  simp only [Array.size_append, List.size_toArray, size_zeroCells, hzs, hfr, ← Nat.add_mul]
                  exact Nat.mul_le_mul_right _ (by omega)
                by_cases hn0 : vs = []
                · have hes0 : es = [] := by
                    rw [hn0] at hvl
                    rcases Nat.eq_zero_or_pos es.length with h0 | h0
                    · exact List.eq_nil_of_length_eq_zero h0
                    · have : 0 < es.length * sz := Nat.mul_pos h0 hpos
                      simp at hvl; omega
                  subst hes0; subst hn0
                  simp only [List.length_nil, Nat.zero_add] at *
                  cases pa with
                  | none =>
                    have hcap0 : cap = 0 := by
                      cases g with
                      | none => exact hg1 none 0 cap he
                      | some b => obtain ⟨n, c2, s2, e2, v2, t2, _, k2, _⟩ := hg1; rw [he] at k2; cases k2
                    subst hcap0
                    refine ⟨_, _, by rw [he, he']; exact run_append_nil st.w tx o.type e i z hu hi hz ⟨b', off', none⟩ es'.length cap' vs' hl' hnews hm' (by omega) (by omega), hC, ?_, ?_⟩
                    · exact hsize vs' hvl'
                    · rw [← hvl']; simp
                  | some pa =>
                    have key := run_append_grow (P := G.P) st.w tx o.type e i z hu hi hz pa 0 cap [] (by simp) (by simp) ⟨b', off', none⟩ es'.length cap' vs' hl' hnews (by omega) (by omega) (by simpa using growslice_fits (by omega) (by simpa using hnb))
                    simp only [Nat.zero_add] at key
                    refine ⟨_, _, by rw [he, he']; exact key, hC, ?_, ?_⟩
                    · have := hsize vs' hvl'
                      simpa using this
                    · rw [← hvl']; simp
                · obtain ⟨b, off, rfl, hcell⟩ := hadr.resolve_left hn0
                  refine ⟨_, _, by rw [he, he']; exact run_append_grow st.w tx o.type e i z hu hi hz ⟨b, off, none⟩ es.length cap vs (by rw [hisz]; exact hvl) (fun j v hv => by rw [addr_add]; exact (hcell j v hv).1) ⟨b', off', none⟩ es'.length cap' vs' hl' hnews hgr (by omega) (growslice_fits (by omega) hnb), hC, ?_, ?_⟩
                  · have := hsize (vs ++ vs') (by rw [List.length_append, hvl, hvl', Nat.add_mul])
                    simpa using this
                  · have : (vs ++ vs').length = (es.length + es'.length) * sz := by rw [List.length_append, hvl, hvl', Nat.add_mul]
                    rw [← this]
                    simp only [Array.toList_append]
                    rw [List.take_append_of_le_length (by simp)]
                    exact List.take_of_length_le (by simp)
              obtain ⟨C, cs, hrun, hC1, hC2, hC3⟩ := hrun
              have hnew : Newer st.w (st.w.drew.alloc (.cells cs e)) := (Newer.drew _).trans (Newer.alloc _ _)
              have hsz2 : (st.w.drew.alloc (.cells cs e)).heap.size = st.w.heap.size + 1 := by simp
              let ext' : Nat → Nat := fun b => if b = st.w.heap.size then (es.length + es'.length) * sz else st.ext b
              have hext : ∀ b, b < st.w.heap.size → ext' b = st.ext b := fun b hb => by simp only [ext']; rw [if_neg (by omega)]
              have hextn : ext' st.w.heap.size = (es.length + es'.length) * sz := by simp [ext']
              obtain ⟨hok, hst⟩ := h1.newer hnew hext (fun b hb => by simp only [ext']; rw [if_neg (by omega)]; exact h.sr.fresh b (by omega))
              have hgrow := hnew.grow h.sr hext
              have hcell2 : (st.w.drew.alloc (.cells cs e)).heap[st.w.heap.size]? = some (.cells cs e (0, 0)) := heap_alloc_new st.w.drew _
              refine goal_append (st' := { st with w := st.w.drew.alloc (.cells cs e), ext := ext' }) (g := some st.w.heap.size) (t := tx) (x := x) hok hfit (run _ _ hrun) ?_ ?_ ?_ ?_ hst
              · exact rep_slice_mk (by simp) hC1 hess (by rw [flatMap_append_cells]; exact (hr.mono hgrow).append (hr'.mono hgrow)) (fun x hx => (List.mem_append.1 hx).elim (h1c x) (hone' x)) hcell2 hC3 (Nat.le_of_eq hextn.symm)
              · exact ⟨_, C, sz, _, cs, e, rfl, rfl, hextn, hcell2, hC2⟩
              · intro b hb; cases hb
                exact ⟨h.top, by simp only; omega, fun hS => by have := h.sr.small _ hS; omega⟩
              · intro b hb p hp; cases hb
                have := (h1.priv p _ hp).2.1
                omega
            cases g with
            | none =>
              have : cap = es.length := hg1 pa es.length cap he
              exact grown (by omega)
            | some gb =>
              obtain ⟨n2, cap2, sz2, es2, cur, et, k1, k2, k3, k4, k5⟩ := hg1
              cases k1
              rw [he] at k2; cases k2
              by_cases hroom : es.length + es'.length ≤ cap
              · -- in its own row
                have hfitr : es.length * i.size + vs'.length ≤ cur.size := by
                  rw [hisz, hvl', ← Nat.add_mul]; exact Nat.le_trans (Nat.mul_le_mul_right _ hroom) k5
                have hrun := run_append_own (P := G.P) st.w tx o.type e et i hu hi gb es.length cap cur k4 ⟨b', off', none⟩ es'.length cap' vs' hl' hnews hone' hroom hfitr
                rw [← he, ← he'] at hrun
                have hclen : es.length * sz ≤ cur.size := Nat.le_trans (Nat.mul_le_mul_right _ hcap) k5
                let new : Array Value := (cur.toList.take (es.length * i.size) ++ vs' ++ cur.toList.drop (es.length * i.size + vs'.length)).toArray
                have hnewl : new.toList = cur.toList.take (es.length * sz) ++ vs' ++ cur.toList.drop (es.length * sz + vs'.length) := by simp [new, hisz]
                have hheap : (st.w.setRow gb new).heap[gb]? = some (.cells new et (0, 0)) := setRow_heap _ _ _ _ _ _ k4
                let ext' : Nat → Nat := fun b => if b = gb then (es.length + es'.length) * sz else st.ext b
                have hext : ∀ b, b ≠ gb → ext' b = st.ext b := fun b hb => by simp only [ext']; rw [if_neg hb]
                have hextg : ext' gb = (es.length + es'.length) * sz := by simp [ext']
                have hgrow : Grow st.w st.ext st.ι (st.w.setRow gb new) ext' st.ι := by
                  refine (Turn.setRow st.w gb new).grow hext (by rw [hextg, k3]; exact Nat.mul_le_mul_right _ (by omega)) fun oo v ho hv => ?_
                  rw [cell_row hheap]
                  rw [cell_row k4] at hv
                  rw [k3] at ho
                  have : new.toList[oo]? = some v := by
                    rw [hnewl, List.append_assoc, List.getElem?_append_left (by simp; omega), List.getElem?_take_of_lt ho]
                    simpa using hv
                  simpa using this
                obtain ⟨hok, hst⟩ := h1.turn hgrow (Turn.setRow st.w gb new) hext (hg3 gb rfl) (hg2 gb rfl)
                have hvs : vs = cur.toList.take (es.length * sz) := by
                  by_cases hv0 : vs = []
                  · rw [hv0] at hvl
                    have : es.length * sz = 0 := by simpa using hvl.symm
                    rw [this, hv0]; rfl
                  · obtain ⟨b, off, hb, hcell⟩ := hadr.resolve_left hv0
                    injection hb with hb; injection hb with hb1' hb2'
                    subst hb1'; subst hb2'
                    apply List.ext_getElem?
                    intro j
                    rcases Nat.lt_or_ge j vs.length with hj | hj
                    · have := (hcell j vs[j] (List.getElem?_eq_getElem hj)).1
                      rw [Nat.zero_add, cell_row k4] at this
                      rw [List.getElem?_take_of_lt (by omega), List.getElem?_eq_getElem hj]
                      simpa using this.symm
                    · rw [List.getElem?_eq_none hj, List.getElem?_eq_none (by simp; omega)]
                refine goal_append (st' := { st with w := st.w.setRow gb new, ext := ext' }) (g := some gb) (t := tx) (x := x) hok hfit (run _ _ hrun) ?_ ?_ ?_ ?_ hst
                · refine rep_slice_mk (us := vs ++ vs') (by simp) hroom hess (by rw [flatMap_append_cells]; exact (hr.mono hgrow).append (hr'.mono hgrow)) (fun x hx => (List.mem_append.1 hx).elim (h1c x) (hone' x)) hheap ?_ (Nat.le_of_eq hextg.symm)
                  rw [hnewl, ← hvs, ← hvl]
                  have : (vs ++ vs').length = (es.length + es'.length) * sz := by rw [List.length_append, hvl, hvl', Nat.add_mul]
                  rw [← this, List.take_append_of_le_length (Nat.le_refl _)]
                  exact List.take_of_length_le (Nat.le_refl _)
                · refine ⟨_, cap, sz, _, new, et, rfl, rfl, hextg, hheap, ?_⟩
                  have : new.size = cur.size := by
                    have := congrArg List.length hnewl
                    rw [hisz] at hfitr
                    simp only [List.length_append, List.length_take, List.length_drop, Array.length_toList] at this
                    omega
                  rw [this]; exact k5
                · intro b hb; cases hb
                  have := hg2 gb rfl
                  exact ⟨this.1, by simpa using this.2.1, this.2.2⟩
                · intro b hb p; cases hb
                  exact hg3 gb rfl p
              · exact grown (by omega)
        · simp at hc
      · simp at hc
    · simp at hc
  · simp at hc

end Go.AI

/- The abstract machine: structs, arrays and slices built; assertions; len, min, max. -/
namespace Go.AI
set_option linter.unusedVariables false
set_option linter.unusedSimpArgs false
open Go

variable {G : Prg} {an : Ann} {E : EE} {B0 : Nat → Prop} {st : St} {ρ ρm : Env} {σ σ' : Sig} {ups : List (Nat × Slot)} {a : Act} {o : Oper} {tmps : Array Value}

theorem fill_step (off : Nat) (cells : Array Value) (v : Value) (h : off + v.cells.size ≤ cells.size) :
    (v.cells.zipIdx.foldl (fun cs (c, j) => cs.setIfInBounds (off + j) c) cells).toList = cells.toList.take off ++ v.cells.toList ++ cells.toList.drop (off + v.cells.toList.length) := by
  have key := Great.foldl_set off v.cells.toList 0 cells
  rw [← Array.foldl_toList, Array.toList_zipIdx]
  obtain ⟨k1, k2⟩ := key
  apply List.ext_getElem?
  intro i
  have k3 := k2 i
  rw [Array.getElem?_toList]
  have e : (List.foldl (fun cs (x : Value × Nat) => match x with | (c, j) => cs.setIfInBounds (off + j) c) cells (v.cells.toList.zipIdx 0)) = (List.foldl (fun cs (x : Value × Nat) => cs.setIfInBounds (off + x.2) x.1) cells (v.cells.toList.zipIdx 0)) := rfl
  rw [e, k3]
  simp only [Nat.add_zero, Array.length_toList]
  by_cases h1 : i < off
  · rw [if_neg (by omega), List.append_assoc, List.getElem?_append_left (by simp; omega), List.getElem?_take_of_lt h1]
    simp
  · by_cases h2 : i < off + v.cells.size
    · rw [if_pos (by omega), List.append_assoc, List.getElem?_append_right (by simp; omega), List.getElem?_append_left (by simp; omega)]
      congr 1
      simp; omega
    · rw [if_neg (by omega), List.getElem?_append_right (by simp; omega), List.getElem?_drop]
      rw [Array.getElem?_toList]
      congr 1
      simp; omega

theorem fill_fold {γ : Type} {place : Nat → Option (Nat × Nat)} {ev : Operand → Value} (R : γ → List Value → Prop) (f : γ → Nat × Operand → Option γ) :
    ∀ (parts : List (Nat × Operand)) (_ : ∀ c p c' cells, p ∈ parts → f c p = some c' → R c cells → ∃ off n, place p.1 = some (off, n) ∧ (ev p.2).cells.size = n ∧ off + n ≤ cells.length ∧
      R c' (cells.take off ++ (ev p.2).cells.toList ++ cells.drop (off + (ev p.2).cells.toList.length))) (c c' : γ) (cells : Array Value), parts.foldlM f c = some c' → R c cells.toList →
      ∃ cells', Instr.fill place cells (parts.map fun p => (p.1, ev p.2)) = some cells' ∧ R c' cells'.toList := by
  intro parts
  induction parts with
  | nil => intro _ c c' cells h hR; simp at h; subst h; exact ⟨cells, rfl, hR⟩
  | cons p parts ih =>
    intro hstep c c' cells h hR
    simp only [List.foldlM_cons, Option.bind_eq_bind, Option.bind_eq_some_iff] at h
    obtain ⟨c1, h1, h2⟩ := h
    obtain ⟨off, n, hp, hn, hle, hR1⟩ := hstep c p c1 cells.toList (by simp) h1 hR
    have hle' : off + (ev p.2).cells.size ≤ cells.size := by rw [hn]; simpa using hle
    rw [← fill_step off cells (ev p.2) hle'] at hR1
    obtain ⟨cells', hc, hR'⟩ := ih (fun c p c' cells hp => hstep c p c' cells (List.mem_cons_of_mem _ hp)) c1 c' _ h2 hR1
    refine ⟨cells', ?_, hR'⟩
    simp only [List.map_cons, Instr.fill, hp]
    rw [if_neg (by simp; omega)]
    exact hc

theorem mem_splice {l : List Value} {off : Nat} {vs : List Value} {x : Value} (h : x ∈ l.take off ++ vs ++ l.drop (off + vs.length)) : x ∈ l ∨ x ∈ vs := by
  simp only [List.mem_append] at h
  rcases h with (h | h) | h
  · exact .inl (List.mem_of_mem_take h)
  · exact .inr h
  · exact .inl (List.mem_of_mem_drop h)

theorem get_splice {l : List Value} {off : Nat} {vs : List Value} (hle : off + vs.length ≤ l.length) {i : Nat} (hi : i < off ∨ off + vs.length ≤ i) : (l.take off ++ vs ++ l.drop (off + vs.length))[i]? = l[i]? := by
  rcases hi with hi | hi
  · rw [List.append_assoc, List.getElem?_append_left (by simp; omega), List.getElem?_take_of_lt hi]
  · rw [List.getElem?_append_right (by simp; omega), List.getElem?_drop]
    congr 1
    simp; omega

theorem splice_length {cs : List AV} {off : Nat} {vs : List AV} (h : off + vs.length ≤ cs.length) : (splice cs off vs).length = cs.length := by
  simp [splice]; omega

/-- A value is made that owns what is a nil slice in it; the world is as it was. -/
theorem goal_nils {v : AV} {c : Value} {ow : List Nat} (h : OK G an B0 st ρ σ a.tmps) (hf : Fit an (puts o.dst (.val v ow)))
    (hr : (execOp a.eval o).run G.P st.w = .ok (.value c) st.w) (hv : Rep st.w st.ext st.ι v c)
    (ho : ∀ i ∈ ow, ∀ x, c.cells[i]? = some x → ∀ p n cap, x = .slice p n cap → cap = n) : OpGoal G an B0 st a o (apply (puts o.dst (.val v ow)) ρ) σ :=
  goal_put (g := fun _ => none) h hf hr hv (fun i hi aa x _ hx => ho i hi x hx) (fun _ _ b hb => by cases hb) (fun _ _ b hb => by cases hb) (fun _ _ _ _ b hb => by cases hb)

theorem nils_good {w : World} {ext : Nat → Nat} {ι : List Nat} {P : Program} {t : TypeId} {cs : List AV} {z : Value} (h : tcells P 6 t z = some cs) : ∀ i ∈ nils cs, ∀ x, z.cells[i]? = some x → ∀ p n cap, x = .slice p n cap → cap = n := by
  intro i _ x hx
  have := (tcells_good (w := w) (ext := ext) (ι := ι) _ _ _ _ h).2.1 x (by
    rw [Array.mem_toList_iff]; exact Array.mem_of_getElem? hx)
  exact this.2

theorem sound_build {t : TypeId} {parts : Array (Nat × Operand)} (ho : o.op = .build t parts) (h : OK G E.an B0 st ρ σ a.tmps) (hs : Sub ρm ρ) (hc : core1 G E o ρm = some ups) (hf : Fit E.an ups) :
    OpGoal G E.an B0 st a o (apply ups ρ) σ := by
  simp only [core1, ho, Option.bind_eq_bind, Option.bind_eq_some_iff] at hc
  obtain ⟨zc, hzc, hc⟩ := hc
  obtain ⟨it, z, hit, hz, hzt⟩ := zeroC_info hzc
  have hzg := tcells_good (w := st.w) (ext := st.ext) (ι := st.ι) _ _ _ _ hzt
  have run : ∀ cells, G.P.built t (parts.toList.map fun p => (p.1, a.eval p.2)) = some cells → (execOp a.eval o).run G.P st.w = .ok (.value (.agg cells)) st.w := by
    intro cells hb
    have := run_build (P := G.P) st.w t (parts.map fun (i, x) => (i, a.eval x)) cells (by rw [← hb]; simp)
    simp [execOp, ho, this]
  split at hc
  · rename_i fs hu
    split at hc
    · simp at hc
    · rename_i hfs
      rw [Option.bind_eq_some_iff] at hc
      obtain ⟨⟨cs, ow⟩, hfold, hc⟩ := hc
      simp at hc; obtain rfl := hc
      have hplaces : ∀ (l : List Field), (∀ f ∈ l, (G.P.info? f.type).isSome = true) → l.mapM (fun f => (G.P.info? f.type).map fun i => (f.offset, i.size)) = some (l.map fun f => (f.offset, G.P.cellsOf f.type)) := by
        intro l
        induction l with
        | nil => intro _; rfl
        | cons f l ih =>
          intro hl
          obtain ⟨i, hi⟩ := Option.isSome_iff_exists.1 (hl f (by simp))
          simp [List.mapM_cons, hi, ih fun g hg => hl g (List.mem_cons_of_mem _ hg), Program.cellsOf]
      have hall : ∀ f ∈ fs.toList, (G.P.info? f.type).isSome = true := by
        have : (fs.all fun f => (G.P.info? f.type).isSome) = true := eq_true_of_ne_false hfs
        rw [Array.all_eq_true] at this
        intro f hf
        obtain ⟨i, hi, rfl⟩ := List.getElem_of_mem hf
        simpa using this i (by simpa using hi)
      obtain ⟨cells, hfill, hR⟩ := fill_fold (place := fun i => ((fs.toList.map fun f => (f.offset, G.P.cellsOf f.type)).toArray)[i]?) (ev := a.eval)
        (fun (acc : List AV × List Nat) cells => Reps st.w st.ext st.ι acc.1 cells ∧ (∀ x ∈ cells, x.oneCell' = true) ∧ ∀ i ∈ acc.2, ∀ x, cells[i]? = some x → ∀ p n cap, x = .slice p n cap → cap = n) _ parts.toList
        (fun c p c' cells hp hstep hR => by
          obtain ⟨fi, x⟩ := p
          simp only [Option.bind_eq_some_iff] at hstep
          obtain ⟨fd, hfd, v, hv, hstep⟩ := hstep
          split at hstep
          · rename_i hcond
            obtain ⟨c1, c2, c3⟩ := hcond
            simp at hstep; subst hstep
            obtain ⟨o1, o2⟩ := (opv_rep h rfl hs hv).one c2
            have hl := o2.length
            have hlen := hR.1.length
            refine ⟨fd.offset, G.P.cellsOf fd.type, by simp [hfd], ?_, by rw [← hlen]; exact c3, hR.1.splice o2 _, ?_, ?_⟩
            · rw [← c1, hl]; simp
            · intro y hy
              rcases mem_splice hy with hy | hy
              · exact hR.2.1 y hy
              · exact o1 y hy
            · intro i hi y hy
              simp at hi
              rw [get_splice (by rw [← hl, c1, ← hlen]; exact c3) (by rw [← hl, c1]; omega)] at hy
              exact hR.2.2 i hi.1 y hy
          · simp at hstep) (zc, nils zc) (cs, ow) z.cells hfold ⟨hzg.1, fun x hx => (hzg.2.1 x hx).1, fun i hi x hx => nils_good (w := st.w) (ext := st.ext) (ι := st.ι) hzt i hi x (by simpa using hx)⟩
      have hb : G.P.built t (parts.toList.map fun p => (p.1, a.eval p.2)) = some cells := by
        unfold Program.built
        simp only [hit, hu, hz, hplaces fs.toList hall]
        exact hfill
      exact goal_nils h hf (run cells hb) (.agg _ _ hR.1 hR.2.1) fun i hi x hx => hR.2.2 i hi x (by simpa [Value.cells] using hx)
  · rename_i len e hu
    split at hc
    · simp at hc
    · rename_i hie
      obtain ⟨ie, hie⟩ := Option.isSome_iff_exists.1 (eq_true_of_ne_false hie : (G.P.info? e).isSome = true)
      rw [Option.bind_eq_some_iff] at hc
      obtain ⟨cs, hfold, hc⟩ := hc
      simp at hc; obtain rfl := hc
      have hcell : G.P.cellsOf e = ie.size := by simp [Program.cellsOf, hie]
      obtain ⟨cells, hfill, hR⟩ := fill_fold (place := fun i => some (i * ie.size, ie.size)) (ev := a.eval)
        (fun (acc : List AV) cells => Reps st.w st.ext st.ι acc cells ∧ (∀ x ∈ cells, x.oneCell' = true)) _ parts.toList
        (fun c p c' cells hp hstep hR => by
          obtain ⟨fi, x⟩ := p
          simp only [Option.bind_eq_some_iff] at hstep
          obtain ⟨v, hv, hstep⟩ := hstep
          split at hstep
          · rename_i hcond
            obtain ⟨c1, c2, c3, c4⟩ := hcond
            simp at hstep; subst hstep
            obtain ⟨o1, o2⟩ := (opv_rep h rfl hs hv).one c2
            have hl := o2.length
            have hlen := hR.1.length
            rw [hcell] at c1 c4 ⊢
            refine ⟨fi * ie.size, ie.size, rfl, by rw [← c1, hl]; simp, by rw [← hlen]; exact c4, hR.1.splice o2 _, ?_⟩
            intro y hy
            rcases mem_splice hy with hy | hy
            · exact hR.2 y hy
            · exact o1 y hy
          · simp at hstep) zc cs z.cells hfold ⟨hzg.1, fun x hx => (hzg.2.1 x hx).1⟩
      have hb : G.P.built t (parts.toList.map fun p => (p.1, a.eval p.2)) = some cells := by
        unfold Program.built
        simp only [hit, hu, hz, hie]
        exact hfill
      exact goal_plain h hf (run cells hb) (.agg _ _ hR.1 hR.2)
  · simp at hc

theorem zeros_list (z : Array Value) (n : Nat) (hn : z.size = n) : ∀ len, ((Array.range (len * n)).map (z[· % z.size]!)).toList = (List.replicate len z.toList).flatten := by
  intro len
  rw [Array.toList_map, Array.toList_range, hn]
  induction len with
  | zero => simp
  | succ len ih =>
    rw [List.replicate_succ', List.flatten_append, Nat.succ_mul, List.range_add, List.map_append, ih]
    congr 1
    rw [List.map_map]
    simp only [List.flatten_cons, List.flatten_nil, List.append_nil]
    apply List.ext_getElem?
    intro i
    by_cases hi : i < n
    · rw [List.getElem?_map, List.getElem?_range hi]
      have : (len * n + i) % n = i := by rw [Nat.mul_comm, Nat.mul_add_mod, Nat.mod_eq_of_lt hi]
      simp [this, hn, hi, getElem!_pos]
    · rw [List.getElem?_eq_none (by simp; omega), List.getElem?_eq_none (by simp; omega)]

theorem set_flat {es : List AV} {sz i : Nat} {v : AV} (h : ∀ e ∈ es, e.cells.length = sz) (hv : v.cells.length = sz) (hi : i < es.length) : (es.set i v).flatMap AV.cells = splice (es.flatMap AV.cells) (i * sz) v.cells := by
  unfold splice
  rw [hv, flat_take h, show i * sz + sz = (i + 1) * sz from by rw [Nat.add_mul, Nat.one_mul], flat_drop h, List.set_eq_take_append_cons_drop, if_pos hi]
  simp

theorem reps_replicate {w : World} {ext : Nat → Nat} {ι : List Nat} {v : AV} {l : List Value} (h : Reps w ext ι v.cells l) : ∀ n, Reps w ext ι ((List.replicate n v).flatMap AV.cells) (List.replicate n l).flatten
  | 0 => .nil
  | n + 1 => by
    simp only [List.replicate_succ, List.flatMap_cons, List.flatten_cons]
    exact h.append (reps_replicate h n)

theorem sound_buildSlice {t : TypeId} {len : Nat} {parts : Array (Nat × Operand)} (ho : o.op = .buildSlice t len parts) (h : OK G E.an B0 st ρ σ a.tmps) (hs : Sub ρm ρ) (hc : core1 G E o ρm = some ups) (hf : Fit E.an ups) :
    OpGoal G E.an B0 st a o (apply ups ρ) σ := by
  simp only [core1, ho, Option.bind_eq_bind, Option.bind_eq_some_iff] at hc
  split at hc
  · rename_i e hu
    simp only [Option.bind_eq_some_iff] at hc
    obtain ⟨zc, hzc, zv, hzv, hc⟩ := hc
    split at hc
    · simp at hc
    · rename_i hcond
      simp only [not_or, Decidable.not_not] at hcond
      obtain ⟨c1, c2, c3⟩ := hcond
      rw [Option.bind_eq_some_iff] at hc
      obtain ⟨es, hfold, hc⟩ := hc
      simp at hc; obtain rfl := hc
      obtain ⟨ie, z, hie, hz, hzt⟩ := zeroC_info hzc
      obtain ⟨r1, r2, r3⟩ := joinC_rep (w := st.w) (ext := st.ext) (ι := st.ι) hzt hzv
      obtain ⟨z1, z2⟩ := r1.one r2
      have hcell : G.P.cellsOf e = ie.size := by simp [Program.cellsOf, hie]
      rw [hcell] at c1 c2 c3 hf hfold ⊢
      have hzs : z.cells.size = ie.size := by rw [← c1, z2.length]; simp
      by_cases hlen : len = 0
      · -- no element
        subst hlen
        have hes : es = [] := by
          have key : ∀ (l : List (Nat × Operand)) (b b' : List AV), l.foldlM (fun (acc : List AV) (p : Nat × Operand) => (opv G ρm e p.2).bind fun v => if v.cells.length = ie.size ∧ v.okc = true ∧ p.1 < 0 then some (acc.set p.1 v) else none) b = some b' → b = [] → b' = [] := by
            intro l b b' hl hb
            refine foldlM_inv _ (fun b => b = []) l ?_ b b' hb hl
            intro b x b' _ hb hx
            rw [Option.bind_eq_some_iff] at hx
            obtain ⟨v, _, hx⟩ := hx
            split at hx
            · omega
            · simp at hx
          exact key _ _ _ hfold rfl
        have hp : parts.toList = [] := by
          cases hpl : parts.toList with
          | nil => rfl
          | cons p l =>
            rw [hpl] at hfold
            simp only [List.foldlM_cons, Option.bind_eq_bind, Option.bind_eq_some_iff] at hfold
            obtain ⟨b, ⟨v, _, hx⟩, _⟩ := hfold
            split at hx
            · omega
            · simp at hx
        have hp' : parts = #[] := by cases parts; simpa using hp
        subst hes; subst hp'
        have hrun : (execOp a.eval o).run G.P st.w = .ok (.value (.slice (some ⟨st.w.heap.size, 0, none⟩) 0 0)) (st.w.alloc (.cells #[] e)) := by
          simp [execOp, ho, Instr.buildSlice, run_underlying hu, sizeOf, typeInfo, hie, Instr.fill, newRow]
          congr 1
          congr 1
          simp [Array.range]
        have hnew : Newer st.w (st.w.alloc (.cells #[] e)) := Newer.alloc _ _
        obtain ⟨hok, hst⟩ := h.newer (ext' := st.ext) hnew (fun _ _ => rfl) (fun b hb => h.sr.fresh b (Nat.le_trans hnew.size hb))
        have := goal_append (st' := { st with w := st.w.alloc (.cells #[] e) }) (g := none) (x := .func 0) (ρm := ρm) (es := []) (es' := []) (sz := ie.size) (t := t) (by simpa [clr, apply] using hok) (by simpa using hf) hrun
          (.slice _ _ _ _ _ [] rfl (Nat.le_refl _) (by simp) .nil (by simp) (.inl rfl)) (by intro p n cap hx; cases hx; rfl) (by simp) (by simp) hst
        simpa [clr] using this
      · have hpos : 0 < ie.size := Nat.pos_of_ne_zero c2
        obtain ⟨cells, hfill, hR⟩ := fill_fold (place := fun i => some (i * ie.size, ie.size)) (ev := a.eval)
          (fun (acc : List AV) cells => Reps st.w st.ext st.ι (acc.flatMap AV.cells) cells ∧ (∀ x ∈ cells, x.oneCell' = true) ∧ (∀ x ∈ acc, x.cells.length = ie.size) ∧ acc.length = len) _ parts.toList
          (fun c p c' cells hp hstep hR => by
            obtain ⟨fi, x⟩ := p
            simp only [Option.bind_eq_some_iff] at hstep
            obtain ⟨v, hv, hstep⟩ := hstep
            split at hstep
            · rename_i hcond
              obtain ⟨d1, d2, d3⟩ := hcond
              simp at hstep; subst hstep
              obtain ⟨o1, o2⟩ := (opv_rep h rfl hs hv).one d2
              have hl := o2.length
              have hlen' := hR.1.length
              rw [flat_len hR.2.2.1, hR.2.2.2] at hlen'
              refine ⟨fi * ie.size, ie.size, rfl, by rw [← d1, hl]; simp, ?_, ?_, ?_, ?_, ?_⟩
              · rw [← hlen']
                have : (fi + 1) * ie.size ≤ len * ie.size := Nat.mul_le_mul_right _ d3
                rw [Nat.add_mul, Nat.one_mul] at this
                exact this
              · rw [set_flat hR.2.2.1 d1 (by rw [hR.2.2.2]; exact d3)]
                exact hR.1.splice o2 _
              · intro y hy
                rcases mem_splice hy with hy | hy
                · exact hR.2.1 y hy
                · exact o1 y hy
              · intro y hy
                rcases List.mem_or_eq_of_mem_set hy with hy | hy
                · exact hR.2.2.1 y hy
                · subst hy; exact d1
              · simpa using hR.2.2.2
            · simp at hstep) (List.replicate len zv) es ((Array.range (len * ie.size)).map (z.cells[· % z.cells.size]!)) hfold (by
              rw [zeros_list z.cells ie.size hzs]
              refine ⟨?_, ?_, ?_, by simp⟩
              · exact reps_replicate z2 len
              · intro x hx
                rw [List.mem_flatten] at hx
                obtain ⟨l, hl, hx⟩ := hx
                rw [List.eq_of_mem_replicate hl] at hx
                exact z1 x hx
              · intro x hx
                rw [List.eq_of_mem_replicate hx]; exact c1)
        obtain ⟨q1, q2, q3, q4⟩ := hR
        have hrun : (execOp a.eval o).run G.P st.w = .ok (.value (.slice (some ⟨st.w.heap.size, 0, none⟩) len len)) (st.w.alloc (.cells cells e)) := by
          have := run_buildSlice (P := G.P) st.w t e len (parts.map fun (i, x) => (i, a.eval x)) cells ie z hu hie hz (by omega) (by
            have := Nat.mul_pos (Nat.pos_of_ne_zero hlen) hpos; omega) (by rw [← hfill]; simp)
          simp [execOp, ho, this]
        have hnew : Newer st.w (st.w.alloc (.cells cells e)) := Newer.alloc _ _
        let ext' : Nat → Nat := fun b => if b = st.w.heap.size then len * ie.size else st.ext b
        have hext : ∀ b, b < st.w.heap.size → ext' b = st.ext b := fun b hb => by simp only [ext']; rw [if_neg (by omega)]
        have hextn : ext' st.w.heap.size = len * ie.size := by simp [ext']
        obtain ⟨hok, hst⟩ := h.newer hnew hext (fun b hb => by
          have : st.w.heap.size + 1 ≤ b := by simpa using hb
          simp only [ext']; rw [if_neg (by omega)]; exact h.sr.fresh b (by omega))
        have hcell2 : (st.w.alloc (.cells cells e)).heap[st.w.heap.size]? = some (.cells cells e (0, 0)) := heap_alloc_new st.w _
        have hclen : cells.size = len * ie.size := by
          have := q1.length
          rw [flat_len q3, q4] at this
          simpa using this.symm
        have hgoal := goal_append (st' := { st with w := st.w.alloc (.cells cells e), ext := ext' }) (g := some st.w.heap.size) (x := .func 0) (ρm := ρm) (es := es) (es' := []) (sz := ie.size) (t := t) (by simpa [clr, apply] using hok) (by simpa using hf) hrun
          (rep_slice_mk (us := cells.toList) (by simp [q4]) (Nat.le_refl _) (by simpa using q3) (by simpa using q1.mono (hnew.grow h.sr hext)) q2 hcell2 (by rw [← hclen]; exact List.take_of_length_le (by simp)) (Nat.le_of_eq hextn.symm))
          ⟨len, len, ie.size, _, cells, e, rfl, rfl, hextn, hcell2, by rw [hclen]; exact Nat.le_refl _⟩ (by
            intro b hb; cases hb
            exact ⟨h.top, by simp, fun hS => by have := h.sr.small _ hS; omega⟩) (by
            intro b hb p hp; cases hb
            have := (h.priv p _ (by simpa [clr, apply] using hp)).2.1
            omega) hst
        simpa [clr] using hgoal
  · simp at hc

theorem sound_typeAssert {x : Operand} {xt t : TypeId} {ok : Bool} (ho : o.op = .typeAssert x xt t ok) (h : OK G E.an B0 st ρ σ a.tmps) (hs : Sub ρm ρ) (hc : core1 G E o ρm = some ups) (hf : Fit E.an ups) :
    OpGoal G E.an B0 st a o (apply ups ρ) σ := by
  simp only [core1, ho, Option.bind_eq_bind, Option.bind_eq_some_iff] at hc
  obtain ⟨p, hp, hc⟩ := hc
  split at hc
  · simp at hc
  · rename_i d t' v hu hni
    have hr := opv_rep h rfl hs hp
    generalize hev : a.eval x = ev at hr
    cases hr with
    | iface _ _ v' hv =>
      have hmatch : ∀ (w : World), (Instr.typeAssert (.iface t' v') xt t ok).run G.P w = (if t' = t then (pure (if ok then Value.tuple #[v', .bool true] else v') : Sem Value) else
          (if ok then do pure (.tuple #[← zeroValue t, .bool false]) else runtimePanic (.typeAssertion (some xt) (some t') t ""))).run G.P w := by
        intro w
        cases d <;> first | (exact absurd rfl (hu _)) | simp [Instr.typeAssert, run_underlying hni]
      split at hc
      · rename_i he
        subst he
        simp at hc; obtain rfl := hc
        refine goal_plain h hf (c := if ok then .tuple #[v', .bool true] else v') ?_ ?_
        · simp [execOp, ho, hev, hmatch st.w]
        · cases ok
          · exact hv
          · exact .tuple _ _ (.cons _ _ _ _ hv (.cons _ _ _ _ (.bool _) .nil))
      · rename_i hne
        split at hc
        · rename_i hok
          simp only [Option.bind_eq_some_iff] at hc
          obtain ⟨zc, hzc, zv, hzv, hc⟩ := hc
          simp at hc; obtain rfl := hc
          obtain ⟨ie, z, hie, hz, hzt⟩ := zeroC_info hzc
          obtain ⟨r1, r2, r3⟩ := joinC_rep (w := st.w) (ext := st.ext) (ι := st.ι) hzt hzv
          refine goal_plain h hf (c := .tuple #[z, .bool false]) ?_ (.tuple _ _ (.cons _ _ _ _ r1 (.cons _ _ _ _ (.bool _) .nil)))
          have hne' : ¬ t' = t := fun e => hne e.symm
          subst hok
          simp [execOp, ho, hev, hmatch st.w, hne', zeroValue, typeInfo, hie, hz]
        · simp at hc
  · simp at hc

theorem sound_len {args : Array Operand} {tys : Array TypeId} (ho : o.op = .call { callee := .builtin .len, args := args, argTypes := tys }) (h : OK G E.an B0 st ρ σ a.tmps) (hs : Sub ρm ρ) (hc : core1 G E o ρm = some ups) (hf : Fit E.an ups) :
    OpGoal G E.an B0 st a o (apply ups ρ) σ := by
  simp only [core1, ho, Option.bind_eq_bind, Option.bind_eq_some_iff] at hc
  obtain ⟨t, ht, x, hx, p, hp, hc⟩ := hc
  split at hc
  · rename_i e sz es hu
    simp at hc; obtain rfl := hc
    obtain ⟨pa, cap, vs, he, _⟩ := rep_slice_inv (opv_rep h rfl hs hp)
    have hx' : (args.map a.eval)[0]? = some (a.eval x) := by rw [Array.getElem?_map, hx]; rfl
    refine goal_plain h hf (c := .int .i64 es.length) ?_ (.int _ _)
    rw [he] at hx'
    simp only [execOp, ho, resolve, invoke, builtin, Sem.run_bind, Sem.run_pure, Result.andThen_ok, Deferred.target, Builtin.len_, ht, hx', run_underlying hu]
    rfl
  · simp at hc

theorem sound_min {args : Array Operand} {tys : Array TypeId} (ho : o.op = .call { callee := .builtin .min, args := args, argTypes := tys }) (h : OK G E.an B0 st ρ σ a.tmps) (hs : Sub ρm ρ) (hc : core1 G E o ρm = some ups) (hf : Fit E.an ups) :
    OpGoal G E.an B0 st a o (apply ups ρ) σ := by
  simp only [core1, ho, Option.bind_eq_bind, Option.bind_eq_some_iff] at hc
  split at hc
  · rename_i x y hargs
    simp only [Option.bind_eq_some_iff] at hc
    obtain ⟨p, hp, q, hq, hc⟩ := hc
    split at hc
    · rename_i k m k' n
      split at hc
      · rename_i hk
        subst hk
        simp at hc; obtain rfl := hc
        have e1 := rep_int_inv (opv_rep h rfl hs hp)
        have e2 := rep_int_inv (opv_rep h rfl hs hq)
        have hargs' : args = #[x, y] := by cases args; simp at hargs; rw [hargs]
        refine goal_plain h hf (c := .int k (if n < m then n else m)) ?_ (.int _ _)
        simp [execOp, ho, hargs', resolve, invoke, builtin, Builtin.min_, Builtin.min2, e1, e2]
      · simp at hc
    · simp at hc
  · simp at hc

theorem sound_max {args : Array Operand} {tys : Array TypeId} (ho : o.op = .call { callee := .builtin .max, args := args, argTypes := tys }) (h : OK G E.an B0 st ρ σ a.tmps) (hs : Sub ρm ρ) (hc : core1 G E o ρm = some ups) (hf : Fit E.an ups) :
    OpGoal G E.an B0 st a o (apply ups ρ) σ := by
  simp only [core1, ho, Option.bind_eq_bind, Option.bind_eq_some_iff] at hc
  split at hc
  · rename_i x y hargs
    simp only [Option.bind_eq_some_iff] at hc
    obtain ⟨p, hp, q, hq, hc⟩ := hc
    split at hc
    · rename_i k m k' n
      split at hc
      · rename_i hk
        subst hk
        simp at hc; obtain rfl := hc
        have e1 := rep_int_inv (opv_rep h rfl hs hp)
        have e2 := rep_int_inv (opv_rep h rfl hs hq)
        have hargs' : args = #[x, y] := by cases args; simp at hargs; rw [hargs]
        refine goal_plain h hf (c := .int k (if m < n then n else m)) ?_ (.int _ _)
        simp [execOp, ho, hargs', resolve, invoke, builtin, Builtin.max_, Builtin.max2, e1, e2]
      · simp at hc
    · simp at hc
  · simp at hc

end Go.AI

