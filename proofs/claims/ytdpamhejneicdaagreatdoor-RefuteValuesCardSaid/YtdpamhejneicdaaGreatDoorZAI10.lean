/- The abstract machine: structs, arrays and slices built; assertions; len, min, max. -/
import Derived.Test.YtdpamhejneicdaaGreatDoorZAI9
namespace Go.AI
set_option linter.unusedVariables false
set_option linter.unusedSimpArgs false
open Go

variable {G : Prg} {an : Ann} {E : EE} {B0 : Nat → Prop} {st : St} {ρ ρm : Env} {σ σ' : Sig} {ups : List (Nat × Slot)} {a : Act} {o : Oper} {tmps : Array Value}

theorem fill_step (off : Nat) (cells : Array Value) (v : Value) (h : off + v.cells.size ≤ cells.size) :
    (v.cells.zipIdx.foldl (fun cs (c, j) => cs.setIfInBounds (off + j) c) cells).toList = cells.toList.take off ++ v.cells.toList ++ cells.toList.drop (off + v.cells.toList.length) := by
  have key := Great.foldl_set off v.cells.toList 0 cells
  rw [← Array.foldl_toList, Array.toList_zipIdx]
  obtain ⟨k1, k2⟩ := key
  apply List.ext_getElem?
  intro i
  have k3 := k2 i
  rw [Array.getElem?_toList]
  have e : (List.foldl (fun cs (x : Value × Nat) => match x with | (c, j) => cs.setIfInBounds (off + j) c) cells (v.cells.toList.zipIdx 0)) = (List.foldl (fun cs (x : Value × Nat) => cs.setIfInBounds (off + x.2) x.1) cells (v.cells.toList.zipIdx 0)) := rfl
  rw [e, k3]
  simp only [Nat.add_zero, Array.length_toList]
  by_cases h1 : i < off
  · rw [if_neg (by omega), List.append_assoc, List.getElem?_append_left (by simp; omega), List.getElem?_take_of_lt h1]
    simp
  · by_cases h2 : i < off + v.cells.size
    · rw [if_pos (by omega), List.append_assoc, List.getElem?_append_right (by simp; omega), List.getElem?_append_left (by simp; omega)]
      congr 1
      simp; omega
    · rw [if_neg (by omega), List.getElem?_append_right (by simp; omega), List.getElem?_drop]
      rw [Array.getElem?_toList]
      congr 1
      simp; omega

theorem fill_fold {γ : Type} {place : Nat → Option (Nat × Nat)} {ev : Operand → Value} (R : γ → List Value → Prop) (f : γ → Nat × Operand → Option γ) :
    ∀ (parts : List (Nat × Operand)) (_ : ∀ c p c' cells, p ∈ parts → f c p = some c' → R c cells → ∃ off n, place p.1 = some (off, n) ∧ (ev p.2).cells.size = n ∧ off + n ≤ cells.length ∧
      R c' (cells.take off ++ (ev p.2).cells.toList ++ cells.drop (off + (ev p.2).cells.toList.length))) (c c' : γ) (cells : Array Value), parts.foldlM f c = some c' → R c cells.toList →
      ∃ cells', Instr.fill place cells (parts.map fun p => (p.1, ev p.2)) = some cells' ∧ R c' cells'.toList := by
  intro parts
  induction parts with
  | nil => intro _ c c' cells h hR; simp at h; subst h; exact ⟨cells, rfl, hR⟩
  | cons p parts ih =>
    intro hstep c c' cells h hR
    simp only [List.foldlM_cons, Option.bind_eq_bind, Option.bind_eq_some_iff] at h
    obtain ⟨c1, h1, h2⟩ := h
    obtain ⟨off, n, hp, hn, hle, hR1⟩ := hstep c p c1 cells.toList (by simp) h1 hR
    have hle' : off + (ev p.2).cells.size ≤ cells.size := by rw [hn]; simpa using hle
    rw [← fill_step off cells (ev p.2) hle'] at hR1
    obtain ⟨cells', hc, hR'⟩ := ih (fun c p c' cells hp => hstep c p c' cells (List.mem_cons_of_mem _ hp)) c1 c' _ h2 hR1
    refine ⟨cells', ?_, hR'⟩
    simp only [List.map_cons, Instr.fill, hp]
    rw [if_neg (by simp; omega)]
    exact hc

theorem mem_splice {l : List Value} {off : Nat} {vs : List Value} {x : Value} (h : x ∈ l.take off ++ vs ++ l.drop (off + vs.length)) : x ∈ l ∨ x ∈ vs := by
  simp only [List.mem_append] at h
  rcases h with (h | h) | h
  · exact .inl (List.mem_of_mem_take h)
  · exact .inr h
  · exact .inl (List.mem_of_mem_drop h)

theorem get_splice {l : List Value} {off : Nat} {vs : List Value} (hle : off + vs.length ≤ l.length) {i : Nat} (hi : i < off ∨ off + vs.length ≤ i) : (l.take off ++ vs ++ l.drop (off + vs.length))[i]? = l[i]? := by
  rcases hi with hi | hi
  · rw [List.append_assoc, List.getElem?_append_left (by simp; omega), List.getElem?_take_of_lt hi]
  · rw [List.getElem?_append_right (by simp; omega), List.getElem?_drop]
    congr 1
    simp; omega

theorem splice_length {cs : List AV} {off : Nat} {vs : List AV} (h : off + vs.length ≤ cs.length) : (splice cs off vs).length = cs.length := by
  simp [splice]; omega

/-- A value is made that owns what is a nil slice in it; the world is as it was. -/
theorem goal_nils {v : AV} {c : Value} {ow : List Nat} (h : OK G an B0 st ρ σ a.tmps) (hf : Fit an (puts o.dst (.val v ow)))
    (hr : (execOp a.eval o).run G.P st.w = .ok (.value c) st.w) (hv : Rep st.w st.ext st.ι v c)
    (ho : ∀ i ∈ ow, ∀ x, c.cells[i]? = some x → ∀ p n cap, x = .slice p n cap → cap = n) : OpGoal G an B0 st a o (apply (puts o.dst (.val v ow)) ρ) σ :=
  goal_put (g := fun _ => none) h hf hr hv (fun i hi aa x _ hx => ho i hi x hx) (fun _ _ b hb => by cases hb) (fun _ _ b hb => by cases hb) (fun _ _ _ _ b hb => by cases hb)

theorem nils_good {w : World} {ext : Nat → Nat} {ι : List Nat} {P : Program} {t : TypeId} {cs : List AV} {z : Value} (h : tcells P 6 t z = some cs) : ∀ i ∈ nils cs, ∀ x, z.cells[i]? = some x → ∀ p n cap, x = .slice p n cap → cap = n := by
  intro i _ x hx
  have := (tcells_good (w := w) (ext := ext) (ι := ι) _ _ _ _ h).2.1 x (by
    rw [Array.mem_toList_iff]; exact Array.mem_of_getElem? hx)
  exact this.2

theorem sound_build {t : TypeId} {parts : Array (Nat × Operand)} (ho : o.op = .build t parts) (h : OK G E.an B0 st ρ σ a.tmps) (hs : Sub ρm ρ) (hc : core1 G E o ρm = some ups) (hf : Fit E.an ups) :
    OpGoal G E.an B0 st a o (apply ups ρ) σ := by
  simp only [core1, ho, Option.bind_eq_bind, Option.bind_eq_some_iff] at hc
  obtain ⟨zc, hzc, hc⟩ := hc
  obtain ⟨it, z, hit, hz, hzt⟩ := zeroC_info hzc
  have hzg := tcells_good (w := st.w) (ext := st.ext) (ι := st.ι) _ _ _ _ hzt
  have run : ∀ cells, G.P.built t (parts.toList.map fun p => (p.1, a.eval p.2)) = some cells → (execOp a.eval o).run G.P st.w = .ok (.value (.agg cells)) st.w := by
    intro cells hb
    have := run_build (P := G.P) st.w t (parts.map fun (i, x) => (i, a.eval x)) cells (by rw [← hb]; simp)
    simp [execOp, ho, this]
  split at hc
  · rename_i fs hu
    split at hc
    · simp at hc
    · rename_i hfs
      rw [Option.bind_eq_some_iff] at hc
      obtain ⟨⟨cs, ow⟩, hfold, hc⟩ := hc
      simp at hc; obtain rfl := hc
      have hplaces : ∀ (l : List Field), (∀ f ∈ l, (G.P.info? f.type).isSome = true) → l.mapM (fun f => (G.P.info? f.type).map fun i => (f.offset, i.size)) = some (l.map fun f => (f.offset, G.P.cellsOf f.type)) := by
        intro l
        induction l with
        | nil => intro _; rfl
        | cons f l ih =>
          intro hl
          obtain ⟨i, hi⟩ := Option.isSome_iff_exists.1 (hl f (by simp))
          simp [List.mapM_cons, hi, ih fun g hg => hl g (List.mem_cons_of_mem _ hg), Program.cellsOf]
      have hall : ∀ f ∈ fs.toList, (G.P.info? f.type).isSome = true := by
        have : (fs.all fun f => (G.P.info? f.type).isSome) = true := eq_true_of_ne_false hfs
        rw [Array.all_eq_true] at this
        intro f hf
        obtain ⟨i, hi, rfl⟩ := List.getElem_of_mem hf
        simpa using this i (by simpa using hi)
      obtain ⟨cells, hfill, hR⟩ := fill_fold (place := fun i => ((fs.toList.map fun f => (f.offset, G.P.cellsOf f.type)).toArray)[i]?) (ev := a.eval)
        (fun (acc : List AV × List Nat) cells => Reps st.w st.ext st.ι acc.1 cells ∧ (∀ x ∈ cells, x.oneCell' = true) ∧ ∀ i ∈ acc.2, ∀ x, cells[i]? = some x → ∀ p n cap, x = .slice p n cap → cap = n) _ parts.toList
        (fun c p c' cells hp hstep hR => by
          obtain ⟨fi, x⟩ := p
          simp only [Option.bind_eq_some_iff] at hstep
          obtain ⟨fd, hfd, v, hv, hstep⟩ := hstep
          split at hstep
          · rename_i hcond
            obtain ⟨c1, c2, c3⟩ := hcond
            simp at hstep; subst hstep
            obtain ⟨o1, o2⟩ := (opv_rep h rfl hs hv).one c2
            have hl := o2.length
            have hlen := hR.1.length
            refine ⟨fd.offset, G.P.cellsOf fd.type, by simp [hfd], ?_, by rw [← hlen]; exact c3, hR.1.splice o2 _, ?_, ?_⟩
            · rw [← c1, hl]; simp
            · intro y hy
              rcases mem_splice hy with hy | hy
              · exact hR.2.1 y hy
              · exact o1 y hy
            · intro i hi y hy
              simp at hi
              rw [get_splice (by rw [← hl, c1, ← hlen]; exact c3) (by rw [← hl, c1]; omega)] at hy
              exact hR.2.2 i hi.1 y hy
          · simp at hstep) (zc, nils zc) (cs, ow) z.cells hfold ⟨hzg.1, fun x hx => (hzg.2.1 x hx).1, fun i hi x hx => nils_good (w := st.w) (ext := st.ext) (ι := st.ι) hzt i hi x (by simpa using hx)⟩
      have hb : G.P.built t (parts.toList.map fun p => (p.1, a.eval p.2)) = some cells := by
        unfold Program.built
        simp only [hit, hu, hz, hplaces fs.toList hall]
        exact hfill
      exact goal_nils h hf (run cells hb) (.agg _ _ hR.1 hR.2.1) fun i hi x hx => hR.2.2 i hi x (by simpa [Value.cells] using hx)
  · rename_i len e hu
    split at hc
    · simp at hc
    · rename_i hie
      obtain ⟨ie, hie⟩ := Option.isSome_iff_exists.1 (eq_true_of_ne_false hie : (G.P.info? e).isSome = true)
      rw [Option.bind_eq_some_iff] at hc
      obtain ⟨cs, hfold, hc⟩ := hc
      simp at hc; obtain rfl := hc
      have hcell : G.P.cellsOf e = ie.size := by simp [Program.cellsOf, hie]
      obtain ⟨cells, hfill, hR⟩ := fill_fold (place := fun i => some (i * ie.size, ie.size)) (ev := a.eval)
        (fun (acc : List AV) cells => Reps st.w st.ext st.ι acc cells ∧ (∀ x ∈ cells, x.oneCell' = true)) _ parts.toList
        (fun c p c' cells hp hstep hR => by
          obtain ⟨fi, x⟩ := p
          simp only [Option.bind_eq_some_iff] at hstep
          obtain ⟨v, hv, hstep⟩ := hstep
          split at hstep
          · rename_i hcond
            obtain ⟨c1, c2, c3, c4⟩ := hcond
            simp at hstep; subst hstep
            obtain ⟨o1, o2⟩ := (opv_rep h rfl hs hv).one c2
            have hl := o2.length
            have hlen := hR.1.length
            rw [hcell] at c1 c4 ⊢
            refine ⟨fi * ie.size, ie.size, rfl, by rw [← c1, hl]; simp, by rw [← hlen]; exact c4, hR.1.splice o2 _, ?_⟩
            intro y hy
            rcases mem_splice hy with hy | hy
            · exact hR.2 y hy
            · exact o1 y hy
          · simp at hstep) zc cs z.cells hfold ⟨hzg.1, fun x hx => (hzg.2.1 x hx).1⟩
      have hb : G.P.built t (parts.toList.map fun p => (p.1, a.eval p.2)) = some cells := by
        unfold Program.built
        simp only [hit, hu, hz, hie]
        exact hfill
      exact goal_plain h hf (run cells hb) (.agg _ _ hR.1 hR.2)
  · simp at hc

theorem zeros_list (z : Array Value) (n : Nat) (hn : z.size = n) : ∀ len, ((Array.range (len * n)).map (z[· % z.size]!)).toList = (List.replicate len z.toList).flatten := by
  intro len
  rw [Array.toList_map, Array.toList_range, hn]
  induction len with
  | zero => simp
  | succ len ih =>
    rw [List.replicate_succ', List.flatten_append, Nat.succ_mul, List.range_add, List.map_append, ih]
    congr 1
    rw [List.map_map]
    simp only [List.flatten_cons, List.flatten_nil, List.append_nil]
    apply List.ext_getElem?
    intro i
    by_cases hi : i < n
    · rw [List.getElem?_map, List.getElem?_range hi]
      have : (len * n + i) % n = i := by rw [Nat.mul_comm, Nat.mul_add_mod, Nat.mod_eq_of_lt hi]
      simp [this, hn, hi, getElem!_pos]
    · rw [List.getElem?_eq_none (by simp; omega), List.getElem?_eq_none (by simp; omega)]

theorem set_flat {es : List AV} {sz i : Nat} {v : AV} (h : ∀ e ∈ es, e.cells.length = sz) (hv : v.cells.length = sz) (hi : i < es.length) : (es.set i v).flatMap AV.cells = splice (es.flatMap AV.cells) (i * sz) v.cells := by
  unfold splice
  rw [hv, flat_take h, show i * sz + sz = (i + 1) * sz from by rw [Nat.add_mul, Nat.one_mul], flat_drop h, List.set_eq_take_append_cons_drop, if_pos hi]
  simp

theorem reps_replicate {w : World} {ext : Nat → Nat} {ι : List Nat} {v : AV} {l : List Value} (h : Reps w ext ι v.cells l) : ∀ n, Reps w ext ι ((List.replicate n v).flatMap AV.cells) (List.replicate n l).flatten
  | 0 => .nil
  | n + 1 => by
    simp only [List.replicate_succ, List.flatMap_cons, List.flatten_cons]
    exact h.append (reps_replicate h n)

theorem sound_buildSlice {t : TypeId} {len : Nat} {parts : Array (Nat × Operand)} (ho : o.op = .buildSlice t len parts) (h : OK G E.an B0 st ρ σ a.tmps) (hs : Sub ρm ρ) (hc : core1 G E o ρm = some ups) (hf : Fit E.an ups) :
    OpGoal G E.an B0 st a o (apply ups ρ) σ := by
  simp only [core1, ho, Option.bind_eq_bind, Option.bind_eq_some_iff] at hc
  split at hc
  · rename_i e hu
    simp only [Option.bind_eq_some_iff] at hc
    obtain ⟨zc, hzc, zv, hzv, hc⟩ := hc
    split at hc
    · simp at hc
    · rename_i hcond
      simp only [not_or, Decidable.not_not] at hcond
      obtain ⟨c1, c2, c3⟩ := hcond
      rw [Option.bind_eq_some_iff] at hc
      obtain ⟨es, hfold, hc⟩ := hc
      simp at hc; obtain rfl := hc
      obtain ⟨ie, z, hie, hz, hzt⟩ := zeroC_info hzc
      obtain ⟨r1, r2, r3⟩ := joinC_rep (w := st.w) (ext := st.ext) (ι := st.ι) hzt hzv
      obtain ⟨z1, z2⟩ := r1.one r2
      have hcell : G.P.cellsOf e = ie.size := by simp [Program.cellsOf, hie]
      rw [hcell] at c1 c2 c3 hf hfold ⊢
      have hzs : z.cells.size = ie.size := by rw [← c1, z2.length]; simp
      by_cases hlen : len = 0
      · -- no element
        subst hlen
        have hes : es = [] := by
          have key : ∀ (l : List (Nat × Operand)) (b b' : List AV), l.foldlM (fun (acc : List AV) (p : Nat × Operand) => (opv G ρm e p.2).bind fun v => if v.cells.length = ie.size ∧ v.okc = true ∧ p.1 < 0 then some (acc.set p.1 v) else none) b = some b' → b = [] → b' = [] := by
            intro l b b' hl hb
            refine foldlM_inv _ (fun b => b = []) l ?_ b b' hb hl
            intro b x b' _ hb hx
            rw [Option.bind_eq_some_iff] at hx
            obtain ⟨v, _, hx⟩ := hx
            split at hx
            · omega
            · simp at hx
          exact key _ _ _ hfold rfl
        have hp : parts.toList = [] := by
          cases hpl : parts.toList with
          | nil => rfl
          | cons p l =>
            rw [hpl] at hfold
            simp only [List.foldlM_cons, Option.bind_eq_bind, Option.bind_eq_some_iff] at hfold
            obtain ⟨b, ⟨v, _, hx⟩, _⟩ := hfold
            split at hx
            · omega
            · simp at hx
        have hp' : parts = #[] := by cases parts; simpa using hp
        subst hes; subst hp'
        have hrun : (execOp a.eval o).run G.P st.w = .ok (.value (.slice (some ⟨st.w.heap.size, 0, none⟩) 0 0)) (st.w.alloc (.cells #[] e)) := by
          simp [execOp, ho, Instr.buildSlice, run_underlying hu, sizeOf, typeInfo, hie, Instr.fill, newRow]
          congr 1
          congr 1
          simp [Array.range]
        have hnew : Newer st.w (st.w.alloc (.cells #[] e)) := Newer.alloc _ _
        obtain ⟨hok, hst⟩ := h.newer (ext' := st.ext) hnew (fun _ _ => rfl) (fun b hb => h.sr.fresh b (Nat.le_trans hnew.size hb))
        have := goal_append (st' := { st with w := st.w.alloc (.cells #[] e) }) (g := none) (x := .func 0) (ρm := ρm) (es := []) (es' := []) (sz := ie.size) (t := t) (by simpa [clr, apply] using hok) (by simpa using hf) hrun
          (.slice _ _ _ _ _ [] rfl (Nat.le_refl _) (by simp) .nil (by simp) (.inl rfl)) (by intro p n cap hx; cases hx; rfl) (by simp) (by simp) hst
        simpa [clr] using this
      · have hpos : 0 < ie.size := Nat.pos_of_ne_zero c2
        obtain ⟨cells, hfill, hR⟩ := fill_fold (place := fun i => some (i * ie.size, ie.size)) (ev := a.eval)
          (fun (acc : List AV) cells => Reps st.w st.ext st.ι (acc.flatMap AV.cells) cells ∧ (∀ x ∈ cells, x.oneCell' = true) ∧ (∀ x ∈ acc, x.cells.length = ie.size) ∧ acc.length = len) _ parts.toList
          (fun c p c' cells hp hstep hR => by
            obtain ⟨fi, x⟩ := p
            simp only [Option.bind_eq_some_iff] at hstep
            obtain ⟨v, hv, hstep⟩ := hstep
            split at hstep
            · rename_i hcond
              obtain ⟨d1, d2, d3⟩ := hcond
              simp at hstep; subst hstep
              obtain ⟨o1, o2⟩ := (opv_rep h rfl hs hv).one d2
              have hl := o2.length
              have hlen' := hR.1.length
              rw [flat_len hR.2.2.1, hR.2.2.2] at hlen'
              refine ⟨fi * ie.size, ie.size, rfl, by rw [← d1, hl]; simp, ?_, ?_, ?_, ?_, ?_⟩
              · rw [← hlen']
                have : (fi + 1) * ie.size ≤ len * ie.size := Nat.mul_le_mul_right _ d3
                rw [Nat.add_mul, Nat.one_mul] at this
                exact this
              · rw [set_flat hR.2.2.1 d1 (by rw [hR.2.2.2]; exact d3)]
                exact hR.1.splice o2 _
              · intro y hy
                rcases mem_splice hy with hy | hy
                · exact hR.2.1 y hy
                · exact o1 y hy
              · intro y hy
                rcases List.mem_or_eq_of_mem_set hy with hy | hy
                · exact hR.2.2.1 y hy
                · subst hy; exact d1
              · simpa using hR.2.2.2
            · simp at hstep) (List.replicate len zv) es ((Array.range (len * ie.size)).map (z.cells[· % z.cells.size]!)) hfold (by
              rw [zeros_list z.cells ie.size hzs]
              refine ⟨?_, ?_, ?_, by simp⟩
              · exact reps_replicate z2 len
              · intro x hx
                rw [List.mem_flatten] at hx
                obtain ⟨l, hl, hx⟩ := hx
                rw [List.eq_of_mem_replicate hl] at hx
                exact z1 x hx
              · intro x hx
                rw [List.eq_of_mem_replicate hx]; exact c1)
        obtain ⟨q1, q2, q3, q4⟩ := hR
        have hrun : (execOp a.eval o).run G.P st.w = .ok (.value (.slice (some ⟨st.w.heap.size, 0, none⟩) len len)) (st.w.alloc (.cells cells e)) := by
          have := run_buildSlice (P := G.P) st.w t e len (parts.map fun (i, x) => (i, a.eval x)) cells ie z hu hie hz (by omega) (by
            have := Nat.mul_pos (Nat.pos_of_ne_zero hlen) hpos; omega) (by rw [← hfill]; simp)
          simp [execOp, ho, this]
        have hnew : Newer st.w (st.w.alloc (.cells cells e)) := Newer.alloc _ _
        let ext' : Nat → Nat := fun b => if b = st.w.heap.size then len * ie.size else st.ext b
        have hext : ∀ b, b < st.w.heap.size → ext' b = st.ext b := fun b hb => by simp only [ext']; rw [if_neg (by omega)]
        have hextn : ext' st.w.heap.size = len * ie.size := by simp [ext']
        obtain ⟨hok, hst⟩ := h.newer hnew hext (fun b hb => by
          have : st.w.heap.size + 1 ≤ b := by simpa using hb
          simp only [ext']; rw [if_neg (by omega)]; exact h.sr.fresh b (by omega))
        have hcell2 : (st.w.alloc (.cells cells e)).heap[st.w.heap.size]? = some (.cells cells e (0, 0)) := heap_alloc_new st.w _
        have hclen : cells.size = len * ie.size := by
          have := q1.length
          rw [flat_len q3, q4] at this
          simpa using this.symm
        have hgoal := goal_append (st' := { st with w := st.w.alloc (.cells cells e), ext := ext' }) (g := some st.w.heap.size) (x := .func 0) (ρm := ρm) (es := es) (es' := []) (sz := ie.size) (t := t) (by simpa [clr, apply] using hok) (by simpa using hf) hrun
          (rep_slice_mk (us := cells.toList) (by simp [q4]) (Nat.le_refl _) (by simpa using q3) (by simpa using q1.mono (hnew.grow h.sr hext)) q2 hcell2 (by rw [← hclen]; exact List.take_of_length_le (by simp)) (Nat.le_of_eq hextn.symm))
          ⟨len, len, ie.size, _, cells, e, rfl, rfl, hextn, hcell2, by rw [hclen]; exact Nat.le_refl _⟩ (by
            intro b hb; cases hb
            exact ⟨h.top, by simp, fun hS => by have := h.sr.small _ hS; omega⟩) (by
            intro b hb p hp; cases hb
            have := (h.priv p _ (by simpa [clr, apply] using hp)).2.1
            omega) hst
        simpa [clr] using hgoal
  · simp at hc

theorem sound_typeAssert {x : Operand} {xt t : TypeId} {ok : Bool} (ho : o.op = .typeAssert x xt t ok) (h : OK G E.an B0 st ρ σ a.tmps) (hs : Sub ρm ρ) (hc : core1 G E o ρm = some ups) (hf : Fit E.an ups) :
    OpGoal G E.an B0 st a o (apply ups ρ) σ := by
  simp only [core1, ho, Option.bind_eq_bind, Option.bind_eq_some_iff] at hc
  obtain ⟨p, hp, hc⟩ := hc
  split at hc
  · simp at hc
  · rename_i d t' v hu hni
    have hr := opv_rep h rfl hs hp
    generalize hev : a.eval x = ev at hr
    cases hr with
    | iface _ _ v' hv =>
      have hmatch : ∀ (w : World), (Instr.typeAssert (.iface t' v') xt t ok).run G.P w = (if t' = t then (pure (if ok then Value.tuple #[v', .bool true] else v') : Sem Value) else
          (if ok then do pure (.tuple #[← zeroValue t, .bool false]) else runtimePanic (.typeAssertion (some xt) (some t') t ""))).run G.P w := by
        intro w
        cases d <;> first | (exact absurd rfl (hu _)) | simp [Instr.typeAssert, run_underlying hni]
      split at hc
      · rename_i he
        subst he
        simp at hc; obtain rfl := hc
        refine goal_plain h hf (c := if ok then .tuple #[v', .bool true] else v') ?_ ?_
        · simp [execOp, ho, hev, hmatch st.w]
        · cases ok
          · exact hv
          · exact .tuple _ _ (.cons _ _ _ _ hv (.cons _ _ _ _ (.bool _) .nil))
      · rename_i hne
        split at hc
        · rename_i hok
          simp only [Option.bind_eq_some_iff] at hc
          obtain ⟨zc, hzc, zv, hzv, hc⟩ := hc
          simp at hc; obtain rfl := hc
          obtain ⟨ie, z, hie, hz, hzt⟩ := zeroC_info hzc
          obtain ⟨r1, r2, r3⟩ := joinC_rep (w := st.w) (ext := st.ext) (ι := st.ι) hzt hzv
          refine goal_plain h hf (c := .tuple #[z, .bool false]) ?_ (.tuple _ _ (.cons _ _ _ _ r1 (.cons _ _ _ _ (.bool _) .nil)))
          have hne' : ¬ t' = t := fun e => hne e.symm
          subst hok
          simp [execOp, ho, hev, hmatch st.w, hne', zeroValue, typeInfo, hie, hz]
        · simp at hc
  · simp at hc

theorem sound_len {args : Array Operand} {tys : Array TypeId} (ho : o.op = .call { callee := .builtin .len, args := args, argTypes := tys }) (h : OK G E.an B0 st ρ σ a.tmps) (hs : Sub ρm ρ) (hc : core1 G E o ρm = some ups) (hf : Fit E.an ups) :
    OpGoal G E.an B0 st a o (apply ups ρ) σ := by
  simp only [core1, ho, Option.bind_eq_bind, Option.bind_eq_some_iff] at hc
  obtain ⟨t, ht, x, hx, p, hp, hc⟩ := hc
  split at hc
  · rename_i e sz es hu
    simp at hc; obtain rfl := hc
    obtain ⟨pa, cap, vs, he, _⟩ := rep_slice_inv (opv_rep h rfl hs hp)
    have hx' : (args.map a.eval)[0]? = some (a.eval x) := by rw [Array.getElem?_map, hx]; rfl
    refine goal_plain h hf (c := .int .i64 es.length) ?_ (.int _ _)
    rw [he] at hx'
    simp only [execOp, ho, resolve, invoke, builtin, Sem.run_bind, Sem.run_pure, Result.andThen_ok, Deferred.target, Builtin.len_, ht, hx', run_underlying hu]
    rfl
  · simp at hc

theorem sound_min {args : Array Operand} {tys : Array TypeId} (ho : o.op = .call { callee := .builtin .min, args := args, argTypes := tys }) (h : OK G E.an B0 st ρ σ a.tmps) (hs : Sub ρm ρ) (hc : core1 G E o ρm = some ups) (hf : Fit E.an ups) :
    OpGoal G E.an B0 st a o (apply ups ρ) σ := by
  simp only [core1, ho, Option.bind_eq_bind, Option.bind_eq_some_iff] at hc
  split at hc
  · rename_i x y hargs
    simp only [Option.bind_eq_some_iff] at hc
    obtain ⟨p, hp, q, hq, hc⟩ := hc
    split at hc
    · rename_i k m k' n
      split at hc
      · rename_i hk
        subst hk
        simp at hc; obtain rfl := hc
        have e1 := rep_int_inv (opv_rep h rfl hs hp)
        have e2 := rep_int_inv (opv_rep h rfl hs hq)
        have hargs' : args = #[x, y] := by cases args; simp at hargs; rw [hargs]
        refine goal_plain h hf (c := .int k (if n < m then n else m)) ?_ (.int _ _)
        simp [execOp, ho, hargs', resolve, invoke, builtin, Builtin.min_, Builtin.min2, e1, e2]
      · simp at hc
    · simp at hc
  · simp at hc

theorem sound_max {args : Array Operand} {tys : Array TypeId} (ho : o.op = .call { callee := .builtin .max, args := args, argTypes := tys }) (h : OK G E.an B0 st ρ σ a.tmps) (hs : Sub ρm ρ) (hc : core1 G E o ρm = some ups) (hf : Fit E.an ups) :
    OpGoal G E.an B0 st a o (apply ups ρ) σ := by
  simp only [core1, ho, Option.bind_eq_bind, Option.bind_eq_some_iff] at hc
  split at hc
  · rename_i x y hargs
    simp only [Option.bind_eq_some_iff] at hc
    obtain ⟨p, hp, q, hq, hc⟩ := hc
    split at hc
    · rename_i k m k' n
      split at hc
      · rename_i hk
        subst hk
        simp at hc; obtain rfl := hc
        have e1 := rep_int_inv (opv_rep h rfl hs hp)
        have e2 := rep_int_inv (opv_rep h rfl hs hq)
        have hargs' : args = #[x, y] := by cases args; simp at hargs; rw [hargs]
        refine goal_plain h hf (c := .int k (if m < n then n else m)) ?_ (.int _ _)
        simp [execOp, ho, hargs', resolve, invoke, builtin, Builtin.max_, Builtin.max2, e1, e2]
      · simp at hc
    · simp at hc
  · simp at hc

end Go.AI
