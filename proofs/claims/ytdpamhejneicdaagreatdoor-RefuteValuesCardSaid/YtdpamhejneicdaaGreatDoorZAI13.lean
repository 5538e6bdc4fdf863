/- The abstract machine: stores. -/
import Derived.Test.YtdpamhejneicdaaGreatDoorZAI12
namespace Go.AI
set_option linter.unusedVariables false
set_option linter.unusedSimpArgs false
open Go

variable {G : Prg} {an : Ann} {E : EE} {B0 : Nat → Prop} {st : St} {ρ ρm : Env} {σ σ' : Sig} {ups : List (Nat × Slot)} {a : Act} {o : Oper} {tmps : Array Value}

theorem set_self (tmps : Array Value) (s : Nat) : tmps.setIfInBounds s (tmps.getD s undef) = tmps := by
  apply Array.ext_getElem?
  intro i
  rw [Array.getElem?_setIfInBounds]
  split
  · rename_i h
    subst h
    split
    · rename_i hlt; simp [Array.getD_eq_getD_getElem?, hlt]
    · rename_i hlt; rw [Array.getElem?_eq_none (by omega)]
  · rfl

/-- The end of a store. -/
theorem goal_skip {st' : St} (h : OK G an B0 st' ρ σ a.tmps) (hst : Step B0 st st') (hf : Fit an (puts o.dst (.val (.tuple []) [])))
    (hr : (execOp a.eval o).run G.P st.w = .ok .skip st'.w) : OpGoal G an B0 st a o (apply (puts o.dst (.val (.tuple []) [])) ρ) σ := by
  cases hd : o.dst with
  | none =>
    refine ⟨undef, st', .inr ⟨hr, rfl⟩, ?_, hst⟩
    simpa [puts, apply, hd, Act.put] using h
  | some d =>
    obtain ⟨h1, h2⟩ := hf (d, .val (.tuple []) []) (by simp [puts, hd])
    obtain ⟨L, hL⟩ := h.putPlain (c := undef) h1 (fit_val h2) (.tuple _ _ .nil)
    refine ⟨undef, { st' with L := L }, .inr ⟨hr, rfl⟩, ?_, ⟨hst.grow, hst.size, hst.blk, hst.os, hst.tape, hst.output⟩⟩
    simpa [puts, apply, hd, put_tmps] using hL

/-- Cells of a box are set, in a world in which its block is the new row. -/
theorem splice_own {w w' : World} {ext : Nat → Nat} {cs : List AV} {vs : List Value} {off n : Nat} {v : AV} {c : Value} {ow new : List Nat} {g0 g : Nat → Option Nat} (hcl : cs.length = vs.length) (hle : off + n ≤ cs.length)
    (hv : v.cells.length = n) (hc : c.cells.toList.length = n)
    (h0 : ∀ i ∈ ow, ∀ a x, cs[i]? = some a → vs[i]? = some x → OwnC w ext a x (g0 i)) (h1 : ∀ i ∈ new, ∀ a x, v.cells[i]? = some a → c.cells[i]? = some x → OwnC w ext a x (g i))
    (hn : ∀ i ∈ new, i < n) (hk : ∀ i ∈ ow, ∀ b, g0 i = some b → w'.heap[b]? = w.heap[b]?) (hk' : ∀ i ∈ new, ∀ b, g i = some b → w'.heap[b]? = w.heap[b]?) :
    ∀ i ∈ ow.filter (fun i => i < off || off + n ≤ i) ++ new.map (off + ·), ∀ a x, (splice cs off v.cells)[i]? = some a → (vs.take off ++ c.cells.toList ++ vs.drop (off + c.cells.toList.length))[i]? = some x →
      OwnC w' ext a x (if off ≤ i ∧ i < off + n then g (i - off) else g0 i) := by
  intro i hi aa xx ha hx
  have e : splice cs off v.cells = cs.take off ++ v.cells ++ cs.drop (off + v.cells.length) := rfl
  rw [List.mem_append] at hi
  rcases hi with hi | hi
  · obtain ⟨i1, i2⟩ := List.mem_filter.1 hi
    simp only [Bool.or_eq_true, decide_eq_true_eq] at i2
    rw [if_neg (by omega)]
    rw [get_splice (by rw [hc]; omega) (by rw [hc]; omega)] at hx
    have ha' : cs[i]? = some aa := by
      rw [e, hv] at ha
      rcases i2 with i2 | i2
      · rwa [List.append_assoc, List.getElem?_append_left (by simp; omega), List.getElem?_take_of_lt i2] at ha
      · rw [List.getElem?_append_right (by simp; omega), List.getElem?_drop] at ha
        have : off + n + (i - (cs.take off ++ v.cells).length) = i := by simp; omega
        rwa [this] at ha
    exact (h0 i i1 aa xx ha' hx).keep fun b hb => ⟨hk i i1 b hb, rfl⟩
  · obtain ⟨j, j1, rfl⟩ := List.mem_map.1 hi
    have hj := hn j j1
    rw [if_pos (by omega), show off + j - off = j from by omega]
    have ha' : v.cells[j]? = some aa := by
      rw [e, List.append_assoc, List.getElem?_append_right (by simp; omega), List.getElem?_append_left (by simp; omega)] at ha
      have : off + j - (cs.take off).length = j := by simp; omega
      rwa [this] at ha
    have hx' : c.cells[j]? = some xx := by
      rw [List.append_assoc, List.getElem?_append_right (by simp; omega), List.getElem?_append_left (by rw [hc]; simp; omega)] at hx
      have : off + j - (vs.take off).length = j := by simp; omega
      rw [this] at hx
      simpa using hx
    exact (h1 j j1 aa xx ha' hx').keep fun b hb => ⟨hk' j j1 b hb, rfl⟩

theorem sound_store {t : TypeId} {p x : Operand} (ho : o.op = .store t p x) (h : OK G E.an B0 st ρ σ a.tmps) (hs : Sub ρm ρ)
    (hc : core G E o ρm σ = some (ups, σ')) (hf : Fit E.an ups) : OpGoal G E.an B0 st a o (apply ups ρ) σ' := by
  simp only [core, ho, Option.bind_eq_bind, Option.bind_eq_some_iff] at hc
  obtain ⟨v, hv, hc⟩ := hc
  split at hc
  · simp at hc
  · rename_i hcond
    simp only [not_or, Decidable.not_not] at hcond
    obtain ⟨c1, c2, c3⟩ := hcond
    have c2 : v.okc = true := eq_true_of_ne_false c2
    have c3 : (G.P.info? t).isSome = true := eq_true_of_ne_false c3
    rw [Option.bind_eq_some_iff] at hc
    obtain ⟨q, hq, hc⟩ := hc
    obtain ⟨o1, o2⟩ := (opv_rep h rfl hs hv).one c2
    have o3 : (a.eval x).cells.toList.length = G.P.cellsOf t := by rw [← o2.length, c1]
    -- what is handed on
    obtain ⟨new, hnew⟩ : ∃ l, l = if takes E.an none x then (opo ρm x).filter (· < G.P.cellsOf t) else [] := ⟨_, rfl⟩
    obtain ⟨cl, hcl⟩ : ∃ l, l = if takes E.an none x then clr ρm x else [] := ⟨_, rfl⟩
    rw [← hnew, ← hcl] at hc
    have key : OK G E.an B0 st (apply cl ρ) σ a.tmps ∧ (∀ s, (ρ s).isLoc = true → apply cl ρ s = ρ s) ∧ ∃ g : Nat → Option Nat, (∀ i ∈ new, ∀ aa xx, v.cells[i]? = some aa → (a.eval x).cells[i]? = some xx → OwnC st.w st.ext aa xx (g i)) ∧
        (∀ i ∈ new, i < G.P.cellsOf t) ∧ (∀ i ∈ new, ∀ b, g i = some b → ¬ B0 b ∧ b < st.w.heap.size ∧ ¬ st.S b) ∧
        (∀ i ∈ new, ∀ b, g i = some b → ∀ p, ¬ Has st.L (apply cl ρ) p b) ∧ (∀ i ∈ new, ∀ j ∈ new, ∀ b, g i = some b → g j = some b → i = j) := by
      subst hnew; subst hcl
      split
      · obtain ⟨k1, k2, g, k3, k4, k5, k6⟩ := own_all h hs hv
        have hm : ∀ i ∈ (opo ρm x).filter (· < G.P.cellsOf t), i ∈ opo ρm x := fun i hi => (List.mem_filter.1 hi).1
        exact ⟨k1, k2, g, fun i hi => k3 i (hm i hi), fun i hi => by simpa using (List.mem_filter.1 hi).2, fun i hi => k4 i (hm i hi), fun i hi => k5 i (hm i hi), fun i hi j hj => k6 i (hm i hi) j (hm j hj)⟩
      · exact ⟨by simpa [apply] using h, fun _ _ => by simp [apply], fun _ => none, by simp, by simp, by simp, by simp, by simp⟩
    clear hnew hcl
    obtain ⟨h1, hkeep, g, g1, g2, g3, g4, g5⟩ := key
    have run : ∀ b off cs vs e, a.eval p = .pointer (some ⟨b, off, none⟩) → st.w.heap[b]? = some (.cells vs e (0, 0)) → Reps st.w st.ext st.ι cs vs.toList → off + G.P.cellsOf t ≤ cs.length →
        (execOp a.eval o).run G.P st.w = .ok .skip (st.w.setRow b (vs.toList.take off ++ (a.eval x).cells.toList ++ vs.toList.drop (off + (a.eval x).cells.toList.length)).toArray) := by
      intro b off cs vs e he hh hr hle
      have hl := hr.length
      have := run_storeCells_at G.P b off e (a.eval x).cells.toList 0 vs st.w hh (by rw [o3]; simp at hl; omega) o1
      have hsz := sizeOf_run (P := G.P) (t := t) st.w c3
      simp only [Nat.add_zero] at this
      have hne : (a.eval x).cells.size = G.P.cellsOf t := by simpa using o3
      simp [execOp, ho, he, Instr.storeAt, Instr.sureAddr, storeVar, hsz, hne]
      rw [this]; simp [hne]
    cases q with
    | im cs => simp at hc
    | loc s off =>
      obtain ⟨he, hl0⟩ := ptrOf_loc h rfl hs hq
      dsimp only at hc
      split at hc
      · rename_i cs ow hρ
        have hρ' := hs.val hρ (by simp)
        split at hc
        · rename_i hle
          simp at hc; obtain ⟨rfl, rfl⟩ := hc
          have hρ1 : apply cl ρ s = .loc cs ow := by rw [hkeep s hl0, hρ']
          have hsl := h1.slot s
          rw [hρ1] at hsl
          obtain ⟨k1, k2, vs, e, k3, k4, k5, k6⟩ := hsl
          have hrun := run _ _ _ _ _ he k3 k4 hle
          obtain ⟨row, hrow⟩ : ∃ row, row = (vs.toList.take off ++ (a.eval x).cells.toList ++ vs.toList.drop (off + (a.eval x).cells.toList.length)).toArray := ⟨_, rfl⟩
          have hrowl : row.toList = vs.toList.take off ++ (a.eval x).cells.toList ++ vs.toList.drop (off + (a.eval x).cells.toList.length) := by rw [hrow]
          rw [← hrow] at hrun
          have hheap : (st.w.setRow (st.L.β s) row).heap[st.L.β s]? = some (.cells row e (0, 0)) := setRow_heap _ _ _ _ _ _ k3
          have ht := Turn.setRow st.w (st.L.β s) row
          have hg : Grow st.w st.ext st.ι (st.w.setRow (st.L.β s) row) st.ext st.ι := ht.grow (fun _ _ => rfl) (Nat.le_refl _) fun oo v ho _ => by rw [k2] at ho; omega
          have hbox : Has st.L (apply cl ρ) (.box s) (st.L.β s) := ⟨by rw [hρ1]; rfl, rfl⟩
          have hpb := h1.priv _ _ hbox
          let ow2 := ow.filter (fun i => i < off || off + G.P.cellsOf t ≤ i) ++ new.map (off + ·)
          let γ2 : Nat → Option Nat := fun i => if off ≤ i ∧ i < off + G.P.cellsOf t then g (i - off) else st.L.γ s i
          have hmem : ∀ i ∈ ow2, ∀ b, γ2 i = some b → (i ∈ ow ∧ st.L.γ s i = some b ∧ ¬ (off ≤ i ∧ i < off + G.P.cellsOf t)) ∨ (∃ j ∈ new, i = off + j ∧ g j = some b) := by
            intro i hi b hb
            rcases List.mem_append.1 hi with hi | hi
            · obtain ⟨i1, i2⟩ := List.mem_filter.1 hi
              simp only [Bool.or_eq_true, decide_eq_true_eq] at i2
              have hn : ¬ (off ≤ i ∧ i < off + G.P.cellsOf t) := by omega
              exact .inl ⟨i1, by simpa [γ2, hn] using hb, hn⟩
            · obtain ⟨j, j1, rfl⟩ := List.mem_map.1 hi
              have := g2 j j1
              refine .inr ⟨j, j1, rfl, ?_⟩
              simp only [γ2] at hb
              rwa [if_pos (by omega), show off + j - off = j from by omega] at hb
          have hown : ∀ i ∈ ow, ∀ b, st.L.γ s i = some b → Has st.L (apply cl ρ) (.own s i) b := fun i hi b hb => ⟨by rw [hρ1]; exact hi, hb⟩
          have hneb : ∀ i ∈ ow, ∀ b, st.L.γ s i = some b → b ≠ st.L.β s := by
            intro i hi b hb e
            subst e
            have := h1.inj _ _ _ (hown i hi _ hb) hbox
            cases this
          let st' : St := { st with w := st.w.setRow (st.L.β s) row, L := st.L.setγ s γ2 }
          obtain ⟨f1, f2⟩ := hf (s, .loc (splice cs off v.cells) ow2) (by simp [ow2])
          have hok : OK G E.an B0 st' (upd (apply cl ρ) s (.loc (splice cs off v.cells) ow2)) σ (a.tmps.setIfInBounds s (a.tmps.getD s undef)) := by
            refine h1.relay (st' := st') f1 f2 (fun u hu => ?_) ?_ (fun _ _ _ _ => rfl) (fun s' off' hs' => by cases hs') (fun u n _ ht => by obtain ⟨sz, es, h4, _⟩ := h1.larr u s n ht; rw [hρ1] at h4; cases h4) (fun s' n hs' => by cases hs') (fun u hu => rfl) (fun u hu i => by simp [st', Lay.setγ, hu]) (fun pl b hp hh => ?_) (fun pl b hp hh => ?_)
              (fun x hx => by simpa [st'] using h1.base x hx) h1.out (h1.sr.turn hg ht (fun _ _ => rfl) hpb.2.1 hpb.2.2)
            · refine (h1.slotTurn hg ht (fun _ _ => rfl) (fun pl hpl hh => ?_)).lay (fun _ => rfl) (fun _ _ _ => rfl) (fun i _ => by simp [st', Lay.setγ, hu])
              have := h1.inj _ _ _ hh hbox
              subst this
              exact hu hpl.symm
            · refine ⟨k1, k2, row, e, hheap, ?_, ?_, ?_⟩
              · rw [hrowl]; exact (k4.mono hg).splice (o2.mono hg) off
              · intro y hy
                rw [hrowl] at hy
                rcases mem_splice hy with hy | hy
                · exact k5 y hy
                · exact o1 y hy
              · intro i hi aa xx ha hx
                have := splice_own (w := st.w) (w' := st.w.setRow (st.L.β s) row) (ext := st.ext) (vs := vs.toList) (ow := ow) (new := new) (g0 := st.L.γ s) (g := g) k4.length hle c1 o3 (fun i hi a x ha hx => k6 i hi a x ha (by simpa using hx)) g1 g2
                  (fun i hi b hb => ht.blk b (hneb i hi b hb)) (fun i hi b hb => ht.blk b (by rintro rfl; exact g4 i hi _ hb _ hbox)) i hi aa xx ha (by rw [← hrowl]; simpa using hx)
                have hγ : st'.L.γ s i = γ2 i := by simp [st', Lay.setγ]
                rw [hγ]; exact this
            · have case1 : ∀ i ∈ ow2, ∀ b, γ2 i = some b → ¬ B0 b ∧ b < st.w.heap.size ∧ ¬ st.S b ∧ (∀ q, q.slot ≠ s → ¬ Has st.L (apply cl ρ) q b) ∧ b ≠ st.L.β s := by
                intro i hi b hb
                rcases hmem i hi b hb with ⟨i1, i2, _⟩ | ⟨j, j1, rfl, j2⟩
                · have := h1.priv _ _ (hown i i1 b i2)
                  refine ⟨this.1, this.2.1, this.2.2, fun q hq hh' => ?_, hneb i i1 b i2⟩
                  have := h1.inj _ _ _ hh' (hown i i1 b i2)
                  subst this; exact hq rfl
                · have := g3 j j1 b j2
                  refine ⟨this.1, this.2.1, this.2.2, fun q hq hh' => g4 j j1 b j2 q hh', ?_⟩
                  rintro rfl; exact g4 j j1 _ j2 _ hbox
              have case2 : ∀ i ∈ ow2, ∀ j ∈ ow2, ∀ b, γ2 i = some b → γ2 j = some b → i = j := by
                intro i hi j hj b hb hb'
                rcases hmem i hi b hb with ⟨i1, i2, _⟩ | ⟨i', i1, rfl, i2⟩ <;> rcases hmem j hj b hb' with ⟨j1, j2, _⟩ | ⟨j', j1, rfl, j2⟩
                · have := h1.inj _ _ _ (hown i i1 b i2) (hown j j1 b j2)
                  cases this; rfl
                · exact absurd (hown i i1 b i2) (g4 j' j1 b j2 _)
                · exact absurd (hown j j1 b j2) (g4 i' i1 b i2 _)
                · rw [g5 i' i1 j' j1 b i2 j2]
              have has : ∀ (pl : Place) (b : Nat), pl.slot = s → Has st'.L (upd (apply cl ρ) s (.loc (splice cs off v.cells) ow2)) pl b → (pl = .box s ∧ b = st.L.β s) ∨ ∃ i ∈ ow2, pl = .own s i ∧ γ2 i = some b := by
                intro pl b hp hh
                cases pl with
                | box t' => simp only [Place.slot] at hp; subst hp; exact .inl ⟨rfl, hh.2.symm⟩
                | own t' i =>
                  simp only [Place.slot] at hp; subst hp
                  have h2 := hh.2
                  have h3 := hh.1
                  rw [upd_same] at h3
                  simp only [st', Lay.setγ, if_true] at h2
                  exact .inr ⟨i, h3, rfl, h2⟩
              rcases has pl b hp hh with ⟨rfl, rfl⟩ | ⟨i, hi, rfl, hb⟩
              · refine ⟨hpb.1, by simpa [st'] using hpb.2.1, hpb.2.2, fun q hq hh' => ?_, fun q hq hh' => ?_⟩
                · have := h1.inj _ _ _ hh' hbox
                  subst this; exact hq rfl
                · rcases has q _ hq hh' with ⟨rfl, _⟩ | ⟨j, hj, rfl, hb'⟩
                  · rfl
                  · exact absurd rfl (case1 j hj _ hb').2.2.2.2
              · obtain ⟨q1, q2, q3, q4, q5⟩ := case1 i hi b hb
                refine ⟨q1, by simpa [st'] using q2, q3, q4, fun q hq hh' => ?_⟩
                rcases has q _ hq hh' with ⟨rfl, e⟩ | ⟨j, hj, rfl, hb'⟩
                · exact absurd e q5
                · rw [case2 i hi j hj b hb hb']
            · have := h1.priv _ _ hh
              exact ⟨by simpa [st'] using this.2.1, this.2.2⟩
          rw [set_self] at hok
          have hst : Step B0 st st' := Step.turn hg ht (fun _ _ => rfl) hpb.1
          have := goal_skip (o := o) hok hst (fun u hu => hf u (by simp; right; right; exact hu)) hrun
          have e2 : apply (cl ++ (s, Slot.loc (splice cs off v.cells) ow2) :: puts o.dst (.val (.tuple []) [])) ρ = apply (puts o.dst (.val (.tuple []) [])) (upd (apply cl ρ) s (.loc (splice cs off v.cells) ow2)) := by
            rw [apply_append]; rfl
          rw [e2]
          exact this
        · simp at hc
      · simp at hc
    | sh id off =>
      obtain ⟨b, hb, he⟩ := rep_ptr_inv (ptrOf_sh h rfl hs hq)
      dsimp only at hc
      split at hc
      · rename_i cs ow hσ
        split at hc
        · rename_i hle
          simp at hc; obtain ⟨rfl, rfl⟩ := hc
          obtain ⟨k2, vs, e, k3, k4, k5, k6⟩ := h1.sr.obj id _ b hσ hb
          have hrun := run _ _ _ _ _ he k3 k4 hle.1
          obtain ⟨row, hrow⟩ : ∃ row, row = (vs.toList.take off ++ (a.eval x).cells.toList ++ vs.toList.drop (off + (a.eval x).cells.toList.length)).toArray := ⟨_, rfl⟩
          have hrowl : row.toList = vs.toList.take off ++ (a.eval x).cells.toList ++ vs.toList.drop (off + (a.eval x).cells.toList.length) := by rw [hrow]
          rw [← hrow] at hrun
          have hheap : (st.w.setRow b row).heap[b]? = some (.cells row e (0, 0)) := setRow_heap _ _ _ _ _ _ k3
          have ht := Turn.setRow st.w b row
          have hbι : b ∈ st.ι := List.mem_of_getElem? hb
          let γ2 : Nat → Option Nat := fun i => if off ≤ i ∧ i < off + G.P.cellsOf t then g (i - off) else st.SL id i
          have hmem : ∀ i ∈ ow.filter (fun i => i < off || off + G.P.cellsOf t ≤ i) ++ new.map (off + ·), ∀ b, γ2 i = some b → (i ∈ ow ∧ st.SL id i = some b) ∨ (∃ j ∈ new, i = off + j ∧ g j = some b) := by
            intro i hi b hb
            rcases List.mem_append.1 hi with hi | hi
            · obtain ⟨i1, i2⟩ := List.mem_filter.1 hi
              simp only [Bool.or_eq_true, decide_eq_true_eq] at i2
              have hn : ¬ (off ≤ i ∧ i < off + G.P.cellsOf t) := by omega
              exact .inl ⟨i1, by simpa [γ2, hn] using hb⟩
            · obtain ⟨j, j1, rfl⟩ := List.mem_map.1 hi
              have := g2 j j1
              refine .inr ⟨j, j1, rfl, ?_⟩
              simp only [γ2] at hb
              rwa [if_pos (by omega), show off + j - off = j from by omega] at hb
          obtain ⟨hok, hst⟩ := h1.setBox (S' := fun y => st.S y ∨ ∃ j ∈ new, g j = some y) (cs' := splice cs off v.cells) (ow' := ow.filter (fun i => i < off || off + G.P.cellsOf t ≤ i) ++ new.map (off + ·)) (g' := γ2) hσ hb ht
            (fun ι' hg => by
              refine ⟨k2, row, e, hheap, ?_, ?_, ?_⟩
              · rw [hrowl]; exact (k4.mono hg).splice (o2.mono hg) off
              · intro y hy
                rw [hrowl] at hy
                rcases mem_splice hy with hy | hy
                · exact k5 y hy
                · exact o1 y hy
              · intro i hi aa xx ha hx
                exact splice_own (w := st.w) (w' := st.w.setRow b row) (ext := st.ext) (vs := vs.toList) (ow := ow) (new := new) (g0 := st.SL id) (g := g) k4.length hle.1 c1 o3 (fun i hi a x ha hx => k6 i hi a x ha (by simpa using hx)) g1 g2
                  (fun i hi y hy => ht.blk y (by rintro rfl; exact (h1.sr.ownS id _ i _ hσ hi hy).2 hbι)) (fun i hi y hy => ht.blk y (by rintro rfl; exact (g3 i hi _ hy).2.2 (h1.sr.inS _ hbι))) i hi aa xx ha (by rw [← hrowl]; simpa using hx))
            (fun y hy => .inl (h1.sr.inS y hy))
            (fun id' o' i y _ ho' hi' hy => .inl (h1.sr.ownS id' o' i y ho' hi' hy).1)
            (fun y hy => by
              rcases hy with hy | ⟨j, j1, j2⟩
              · exact ⟨h1.sr.small y hy, h1.out y hy⟩
              · have := g3 j j1 y j2; exact ⟨this.2.1, this.1⟩)
            (fun pl y hp hy => by
              rcases hy with hy | ⟨j, j1, j2⟩
              · exact (h1.priv pl y hp).2.2 hy
              · exact g4 j j1 y j2 pl hp)
            (fun i hi y hy => by
              rcases hmem i hi y hy with ⟨i1, i2⟩ | ⟨j, j1, rfl, j2⟩
              · obtain ⟨q1, q2⟩ := h1.sr.ownS id _ i y hσ i1 i2
                refine ⟨.inl q1, q2, fun id' o' i' hi' ho' hi'' hy' => hi' (h1.sr.inj id' o' i' id _ i y ho' hi'' hy' hσ i1 i2).1, fun j hj hy' => ?_⟩
                rcases hmem j hj y hy' with ⟨j1, j2⟩ | ⟨j', j1, rfl, j2⟩
                · exact (h1.sr.inj id _ i id _ j y hσ i1 i2 hσ j1 j2).2
                · exact absurd q1 (g3 j' j1 y j2).2.2
              · have q := g3 j j1 y j2
                refine ⟨.inr ⟨j, j1, j2⟩, fun hy' => q.2.2 (h1.sr.inS y hy'), fun id' o' i' hi' ho' hi'' hy' => q.2.2 (h1.sr.ownS id' o' i' y ho' hi'' hy').1, fun j' hj hy' => ?_⟩
                rcases hmem j' hj y hy' with ⟨k1, k2⟩ | ⟨j'', k1, rfl, k2⟩
                · exact absurd (h1.sr.ownS id _ j' y hσ k1 k2).1 q.2.2
                · rw [g5 j j1 j'' k1 y j2 k2])
          have := goal_skip (o := o) hok hst (fun u hu => hf u (by simp; right; exact hu)) hrun
          rw [apply_append]
          exact this
        · simp at hc
      · simp at hc

end Go.AI
