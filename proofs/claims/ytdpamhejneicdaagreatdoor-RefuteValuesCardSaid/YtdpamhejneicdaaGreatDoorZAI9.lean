/- The abstract machine: slices cut, built and appended to; structs built. -/
import Derived.Test.YtdpamhejneicdaaGreatDoorZAI8
namespace Go.AI
set_option linter.unusedVariables false
set_option linter.unusedSimpArgs false
open Go

variable {G : Prg} {an : Ann} {E : EE} {B0 : Nat → Prop} {st : St} {ρ ρm : Env} {σ σ' : Sig} {ups : List (Nat × Slot)} {a : Act} {o : Oper} {tmps : Array Value}

theorem bound_run {P : Program} {w : World} {k : IntKind} {n : Int} {y : Nat} {code : BoundsCode} (h0 : 0 ≤ n) (h1 : n.toNat ≤ y) : (Instr.sliceBound (.int k n) y code).run P w = .ok n.toNat w := by
  have : n ≤ (y : Int) := by omega
  simp [Instr.sliceBound, asIntOf, h0, this]

theorem sound_slice {t : TypeId} {x : Operand} {lo hi mx : Option Operand} (ho : o.op = .slice t x lo hi mx) (h : OK G E.an B0 st ρ σ a.tmps) (hs : Sub ρm ρ) (hc : core1 G E o ρm = some ups) (hf : Fit E.an ups) :
    OpGoal G E.an B0 st a o (apply ups ρ) σ := by
  simp only [core1, ho, Option.bind_eq_bind, Option.bind_eq_some_iff] at hc
  obtain ⟨p, hp, hc⟩ := hc
  split at hc
  · rename_i e sz es hu
    split at hc
    · simp at hc
    · rename_i hsz
      simp only [Option.bind_eq_some_iff] at hc
      obtain ⟨l, hl, hh, hhh, m, hm, hc⟩ := hc
      split at hc
      · rename_i hcond
        obtain ⟨c1, c2, c3, c4⟩ := hcond
        simp at hc; obtain rfl := hc
        obtain ⟨pa, cap, vs, he, hcap, hes, hr, h1c, hadr⟩ := rep_slice_inv (opv_rep h rfl hs hp)
        have hsz' : sz = G.P.cellsOf e := by omega
        -- the bounds, as the model reckons them
        have bnd : ∀ (y : Option Operand) (d v : Nat), (match y with | none => some d | some y => match opv G ρm 0 y with | some (.int _ n) => if 0 ≤ n then some n.toNat else none | _ => none) = some v →
            (y = none ∧ v = d) ∨ ∃ y' k n, y = some y' ∧ a.eval y' = .int k n ∧ 0 ≤ n ∧ n.toNat = v := by
          intro y d v hv
          cases y with
          | none => simp at hv; exact .inl ⟨rfl, hv.symm⟩
          | some y =>
            right
            dsimp only at hv
            split at hv
            · rename_i k n hn
              split at hv
              · rename_i h0
                simp at hv
                exact ⟨y, k, n, rfl, rep_int_inv (opv_rep h rfl hs hn), h0, hv⟩
              · simp at hv
            · simp at hv
        obtain ⟨M, hM⟩ : ∃ M, M = if mx.isSome then m else cap := ⟨_, rfl⟩
        have hMm : hh ≤ M := by rw [hM]; split <;> omega
        have run : G.P.info? e ≠ none → (execOp a.eval o).run G.P st.w = .ok (.value (.slice (if M = l then pa else pa.map (·.add (l * sz))) (hh - l) (M - l))) st.w := by
          intro hie
          have hsize : (sizeOf e).run G.P st.w = .ok sz st.w := by rw [hsz']; exact sizeOf_run _ (Option.isSome_iff_ne_none.2 hie)
          have hb : (Instr.sliceBounds true es.length cap (lo.map a.eval) (hi.map a.eval) (mx.map a.eval)).run G.P st.w = .ok (l, hh, M) st.w := by
            rcases bnd mx hh m hm with ⟨rfl, rfl⟩ | ⟨y, k, n, rfl, e1, e2, e3⟩
            · simp at hM
              rcases bnd hi es.length m hhh with ⟨rfl, rfl⟩ | ⟨y', k', n', rfl, e1', e2', e3'⟩
              · rcases bnd lo 0 l hl with ⟨rfl, rfl⟩ | ⟨y'', k'', n'', rfl, e1'', e2'', e3''⟩
                · simp [Instr.sliceBounds, hM]
                · simp [Instr.sliceBounds, hM, e1'', bound_run e2'' (show n''.toNat ≤ es.length by omega), e3'']
              · rcases bnd lo 0 l hl with ⟨rfl, rfl⟩ | ⟨y'', k'', n'', rfl, e1'', e2'', e3''⟩
                · simp [Instr.sliceBounds, hM, e1', bound_run e2' (show n'.toNat ≤ cap by omega), e3']
                · simp [Instr.sliceBounds, hM, e1', e1'', bound_run e2' (show n'.toNat ≤ cap by omega), e3', bound_run e2'' (show n''.toNat ≤ m by omega), e3'']
            · simp at hM
              rcases bnd hi es.length hh hhh with ⟨rfl, rfl⟩ | ⟨y', k', n', rfl, e1', e2', e3'⟩
              · simp at c4
              · rcases bnd lo 0 l hl with ⟨rfl, rfl⟩ | ⟨y'', k'', n'', rfl, e1'', e2'', e3''⟩
                · simp [Instr.sliceBounds, hM, e1, bound_run e2 (show n.toNat ≤ cap by omega), e3, e1', bound_run e2' (show n'.toNat ≤ m by omega), e3']
                · simp [Instr.sliceBounds, hM, e1, bound_run e2 (show n.toNat ≤ cap by omega), e3, e1', e1'', bound_run e2' (show n'.toNat ≤ m by omega), e3', bound_run e2'' (show n''.toNat ≤ hh by omega), e3'']
          simp [execOp, ho, he, Instr.sliceAt, Instr.slice, run_underlying hu, hb, hsize]
        have hie : G.P.info? e ≠ none := by
          have := info_of_cells (P := G.P) (t := e) (by omega)
          exact Option.isSome_iff_ne_none.1 this
        have hvl : vs.length = es.length * sz := by rw [← hr.length, flat_len hes]
        refine goal_put (g := fun _ => none) h hf (run hie) (.slice sz _ _ _ _ ((vs.drop (l * sz)).take ((hh - l) * sz)) ?_ ?_ ?_ ?_ (fun x hx => h1c x (List.mem_of_mem_drop (List.mem_of_mem_take hx))) ?_) (fun i hi' aa xx ha hx => ?_) (fun i _ b hb => by cases hb) (fun i _ b hb => by cases hb) (fun i _ j _ b hb => by cases hb)
        · simp; omega
        · omega
        · intro x hx
          exact hes x (List.mem_of_mem_drop (List.mem_of_mem_take hx))
        · have := (hr.drop (l * sz)).take ((hh - l) * sz)
          rw [flat_drop hes, flat_take (fun x hx => hes x (List.mem_of_mem_drop hx))] at this
          exact this
        · by_cases hlh : l = hh
          · left; rw [hlh]; simp
          · by_cases hz : sz = 0
            · left; rw [hz]; simp
            · right
              have hne : vs ≠ [] := by
                intro hv
                rw [hv] at hvl
                have : 0 < es.length * sz := Nat.mul_pos (by omega) (by omega)
                simp at hvl; omega
              obtain ⟨b, off, rfl, hcell⟩ := hadr.resolve_left hne
              refine ⟨b, off + l * sz, ?_, fun i v hv => ?_⟩
              · rw [if_neg (by omega)]; simp [addr_add]
              · have hlt' := (List.getElem?_eq_some_iff.1 hv).1
                rw [List.getElem?_take_of_lt (by simp at hlt'; omega), List.getElem?_drop] at hv
                have := hcell _ _ hv
                rwa [← Nat.add_assoc] at this
        · split at hi'
          · rename_i hmx
            simp at hi'; subst hi'
            intro q n' cap' hxx
            subst hxx
            simp [Value.cells] at hx
            rw [hM, if_pos hmx] at hx
            omega
          · cases hi'
      · simp at hc
  · simp at hc


theorem len_flat {vs : List Value} {es : List AV} {sz : Nat} {w : World} {ext : Nat → Nat} {ι : List Nat} (hes : ∀ e ∈ es, e.cells.length = sz) (hr : Reps w ext ι (es.flatMap AV.cells) vs) : vs.length = es.length * sz := by
  rw [← hr.length, flat_len hes]

/-- append of nothing. -/
theorem run_append_zero {P : Program} (w : World) (t ty e : TypeId) (i : TypeInfo) (ht : P.underlying t = some (.slice e)) (hi : P.info? e = some i) (base pa : Option Addr) (n cap c : Nat) (hn : n ≤ cap) :
    (Builtin.append_ #[t, t] ty #[.slice base n cap, .slice pa 0 c]).run P w = .ok (.slice base n cap) w := by
  cases base <;> cases pa <;> simp [Builtin.append_, run_underlying ht, sizeOf, typeInfo, hi, Builtin.lenOf, Builtin.firstCells, hn, storeCells, loadCells, loadCellsFrom]

theorem rep_slice_mk {w : World} {ext : Nat → Nat} {ι : List Nat} {sz : Nat} {es : List AV} {b n cap : Nat} {vs : Array Value} {e : TypeId} {fr : Nat × Nat} {us : List Value} (hn : n = es.length) (hc : n ≤ cap) (hes : ∀ e ∈ es, e.cells.length = sz)
    (hr : Reps w ext ι (es.flatMap AV.cells) us) (h1 : ∀ x ∈ us, x.oneCell' = true) (hh : w.heap[b]? = some (.cells vs e fr)) (hu : vs.toList.take (n * sz) = us) (he : n * sz ≤ ext b) : Rep w ext ι (.slice sz es) (.slice (some ⟨b, 0, none⟩) n cap) := by
  have hl := len_flat hes hr
  refine .slice _ _ _ _ _ us hn hc hes hr h1 (.inr ⟨b, 0, rfl, fun i v hv => ?_⟩)
  have hlt := (List.getElem?_eq_some_iff.1 hv).1
  rw [cell_row hh, Nat.zero_add]
  rw [← hu, List.getElem?_take_of_lt (by rw [hl, ← hn] at hlt; exact hlt)] at hv
  exact ⟨by simpa using hv, by rw [hl, ← hn] at hlt; omega⟩

theorem zeroC_info {P : Program} {t : TypeId} {cs : List AV} (h : zeroC P t = some cs) : ∃ i z, P.info? t = some i ∧ i.zero = some z ∧ tcells P 6 t z = some cs := by
  unfold zeroC at h
  rw [Option.bind_eq_some_iff] at h
  obtain ⟨z, h1, h2⟩ := h
  rw [Option.bind_eq_some_iff] at h1
  obtain ⟨i, h1, h3⟩ := h1
  exact ⟨i, z, h1, h3, h2⟩

/-- The rest of an append: what holds of the frame once the slice is there. -/
theorem goal_append {t : TypeId} {x : Operand} {sz : Nat} {es es' : List AV} {v : Value} {st' : St} {g : Option Nat}
    (h' : OK G E.an B0 st' (apply (clr ρm x) ρ) σ a.tmps) (hf : Fit E.an (puts o.dst (.val (.slice sz (es ++ es')) [0])))
    (hr : (execOp a.eval o).run G.P st.w = .ok (.value v) st'.w) (hv : Rep st'.w st'.ext st'.ι (.slice sz (es ++ es')) v)
    (ho : OwnC st'.w st'.ext (.slice sz (es ++ es')) v g) (hp : ∀ b, g = some b → ¬ B0 b ∧ b < st'.w.heap.size ∧ ¬ st'.S b) (hn : ∀ b, g = some b → ∀ p, ¬ Has st'.L (apply (clr ρm x) ρ) p b)
    (hstep : Step B0 st st') : OpGoal G E.an B0 st a o (apply (clr ρm x ++ puts o.dst (.val (.slice sz (es ++ es')) [0])) ρ) σ := by
  rw [apply_append]
  obtain ⟨pa, n, cap, hvv⟩ : ∃ pa n cap, v = .slice pa n cap := by cases hv; exact ⟨_, _, _, rfl⟩
  cases hd : o.dst with
  | none =>
    refine ⟨v, st', .inl hr, ?_, hstep⟩
    simpa [puts, apply, hd, Act.put] using h'
  | some d =>
    obtain ⟨h1, h2⟩ := hf (d, .val (.slice sz (es ++ es')) [0]) (by simp [puts, hd])
    have hL := h'.put (ow := [0]) h1 (fit_val h2) (fun _ => g) hv (fun i hi aa xx ha hx => ?_) (fun i _ b hb => hp b hb) (fun i _ b hb p _ => hn b hb p) (fun i hi j hj b _ _ => (List.mem_singleton.1 hi).trans (List.mem_singleton.1 hj).symm)
    · refine ⟨v, { st' with L := st'.L.setγ d fun _ => g }, .inl hr, ?_, ⟨hstep.grow, hstep.size, hstep.blk, hstep.os, hstep.tape, hstep.output⟩⟩
      simpa [puts, apply, hd, put_tmps] using hL
    · simp at hi; subst hi
      simp [AV.cells] at ha; subst ha
      rw [hvv] at hx
      simp [Value.cells] at hx; subst hx
      rw [hvv] at ho
      exact ho


/-- What the first operand of an append owns. -/
theorem own_of {t : TypeId} {x : Operand} {sz : Nat} {es : List AV} (h : OK G an B0 st ρ σ a.tmps) (hs : Sub ρm ρ) (hv : opv G ρm t x = some (.slice sz es)) (ho : (opo ρm x).contains 0 = true) :
    OK G an B0 st (apply (clr ρm x) ρ) σ a.tmps ∧ ∃ g, OwnC st.w st.ext (.slice sz es) (a.eval x) g ∧ (∀ b, g = some b → ¬ B0 b ∧ b < st.w.heap.size ∧ ¬ st.S b) ∧
      (∀ b, g = some b → ∀ p, ¬ Has st.L (apply (clr ρm x) ρ) p b) := by
  cases x with
  | tmp s =>
    simp only [opv] at hv
    split at hv
    · rename_i v' ow hρ
      simp at hv; subst hv
      have hρ' := hs.val hρ (by simp)
      have hc : clr ρm (.tmp s) = [(s, .val (.slice sz es) [])] := by simp [clr, hρ]
      have hoo : opo ρm (.tmp s) = ow := by simp [opo, hρ]
      rw [hoo] at ho
      have h0 : 0 ∈ ow := by simpa using ho
      rw [hc]
      have hsl := h.slot s
      rw [hρ'] at hsl
      obtain ⟨pa, cap, vs, he, _⟩ := rep_slice_inv hsl.1
      have hplace : ∀ b, st.L.γ s 0 = some b → Has st.L ρ (.own s 0) b := fun b hb => ⟨by rw [hρ']; exact h0, hb⟩
      refine ⟨h.clear (.inl ⟨_, ow, [], hρ', rfl, fun _ hi => by cases hi⟩), st.L.γ s 0, ?_, fun b hb => h.priv _ _ (hplace b hb), fun b hb p hp => ?_⟩
      · have := hsl.2 0 h0 (.slice sz es) (a.tmps.getD s undef) (by simp [AV.cells]) (by rw [he]; simp [Value.cells])
        simpa [Act.eval] using this
      · obtain ⟨k1, k2⟩ := has_clear hρ' hp
        exact k2 0 (h.inj _ _ _ k1 (hplace b hb))
    · simp at hv
  | const c =>
    refine ⟨by simpa [clr, apply] using h, none, ?_, fun b hb => (by cases hb), fun b hb => (by cases hb)⟩
    unfold opo at ho
    split at ho
    · rename_i h'; cases h'
    · rename_i h'
      injection h' with h'
      subst h'
      intro p n cap hxx
      simp [Act.eval] at hxx
      omega
    · simp at ho
  | global g => simp [opo] at ho
  | func f => simp [opo] at ho

theorem run_append_own {P : Program} (w : World) (t ty e et : TypeId) (i : TypeInfo) (ht : P.underlying t = some (.slice e)) (hi : P.info? e = some i)
    (g sLen sCap : Nat) (cur : Array Value) (hg : w.heap[g]? = some (.cells cur et (0, 0)))
    (a : Addr) (m c : Nat) (news : List Value) (hl : news.length = m * i.size) (hnews : ∀ j u, news[j]? = some u → w.cell? (a.add j) = some u) (h1 : ∀ u ∈ news, u.oneCell' = true)
    (hroom : sLen + m ≤ sCap) (hfit : sLen * i.size + news.length ≤ cur.size) :
    (Builtin.append_ #[t, t] ty #[.slice (some ⟨g, 0, none⟩) sLen sCap, .slice (some a) m c]).run P w =
      .ok (.slice (some ⟨g, 0, none⟩) (sLen + m) sCap) (w.setRow g (cur.toList.take (sLen * i.size) ++ news ++ cur.toList.drop (sLen * i.size + news.length)).toArray) := by
  have hf := run_firstCells_some (P := P) w i.size m a m c news hl hnews
  have hst := run_storeCells_at P g (sLen * i.size) et news 0 cur w hg (by simpa using hfit) h1
  simp only [Nat.add_zero] at hst
  simp [Builtin.append_, run_underlying ht, sizeOf, typeInfo, hi, Builtin.lenOf, hroom, hf, Addr.add_lit, hst]

theorem flatMap_append_cells (x y : List AV) : (x ++ y).flatMap AV.cells = x.flatMap AV.cells ++ y.flatMap AV.cells := by simp

theorem sound_append {args : Array Operand} {tys : Array TypeId} (ho : o.op = .call { callee := .builtin .append, args := args, argTypes := tys }) (h : OK G E.an B0 st ρ σ a.tmps) (hs : Sub ρm ρ) (hc : core1 G E o ρm = some ups) (hf : Fit E.an ups) :
    OpGoal G E.an B0 st a o (apply ups ρ) σ := by
  simp only [core1, ho, Option.bind_eq_bind, Option.bind_eq_some_iff] at hc
  split at hc
  · rename_i x y tx ty hargs htys
    split at hc
    · rename_i e e' hu hu'
      rw [Option.bind_eq_some_iff] at hc
      obtain ⟨p, hp, hc⟩ := hc
      rw [Option.bind_eq_some_iff] at hc
      obtain ⟨q, hq, hc⟩ := hc
      split at hc
      · rename_i sz es sz' es'
        split at hc
        · rename_i hcond
          obtain ⟨hxy, hsz, hsz', hpos, hown, hlen, hb1, hb0, hzc⟩ := hcond
          simp at hc; obtain rfl := hc
          subst hxy; obtain rfl := hsz'.symm
          rw [Option.map_eq_some_iff] at hzc
          obtain ⟨zc, hzc, hzl⟩ := hzc
          obtain ⟨i, z, hi, hz, hzt⟩ := zeroC_info hzc
          have hzs : z.cells.size = sz := by
            have := (tcells_rep (w := st.w) (ext := st.ext) (ι := st.ι) _ _ _ _ hzt).1.length
            rw [hzl] at this; simpa using this.symm
          have hisz : i.size = sz := by rw [hsz]; simp [Program.cellsOf, hi]
          have hib : i.bytes ≤ 1024 := by simpa [hi] using hb1
          have hargs' : args = #[x, y] := by cases args; simp at hargs; rw [hargs]
          have htys' : tys = #[tx, tx] := by cases tys; simp at htys; rw [htys]
          have run : ∀ v w', (Builtin.append_ #[tx, tx] o.type #[a.eval x, a.eval y]).run G.P st.w = .ok v w' → (execOp a.eval o).run G.P st.w = .ok (.value v) w' := by
            intro v w' hr
            simp [execOp, ho, hargs', htys', resolve, invoke, builtin, hr]
          obtain ⟨pa, cap, vs, he, hcap, hes, hr, h1c, hadr⟩ := rep_slice_inv (opv_rep h rfl hs hp)
          obtain ⟨pa', cap', vs', he', hcap', hes', hr', hone', hadr'⟩ := rep_slice_inv (opv_rep h rfl hs hq)
          obtain ⟨h1, g, hg1, hg2, hg3⟩ := own_of h hs hp hown
          have hfit : Fit E.an (puts o.dst (.val (.slice sz (es ++ es')) [0])) := fun u hu => hf u (List.mem_append_right _ hu)
          have hvl := len_flat hes hr
          have hvl' := len_flat hes' hr'
          have hess : ∀ e ∈ es ++ es', e.cells.length = sz := fun x hx => by
            rcases List.mem_append.1 hx with hx | hx
            · exact hes x hx
            · exact hes' x hx
          by_cases hm : es' = []
          · subst hm
            refine goal_append (st' := st) (g := g) (v := a.eval x) (t := tx) (x := x) h1 hfit (run _ _ ?_) ?_ ?_ hg2 hg3 (Step.refl _ _)
            · rw [he, he']; exact run_append_zero st.w tx o.type e i hu hi pa pa' es.length cap cap' hcap
            · simpa using opv_rep h rfl hs hp
            · simpa using hg1
          · have hm' : 0 < es'.length := List.length_pos_iff.2 hm
            have hnb : (es.length + es'.length) * i.bytes ≤ 140737488355328 :=
              Nat.le_trans (Nat.mul_le_mul hlen hib) (by decide)
            have hne' : vs' ≠ [] := by
              intro hv; rw [hv] at hvl'
              have : 0 < es'.length * sz := Nat.mul_pos hm' hpos
              simp at hvl'; omega
            obtain ⟨b', off', rfl, hcell'⟩ := hadr'.resolve_left hne'
            have hnews : ∀ j u, vs'[j]? = some u → st.w.cell? ((⟨b', off', none⟩ : Addr).add j) = some u := fun j u hu => by rw [addr_add]; exact (hcell' j u hu).1
            have hl' : vs'.length = es'.length * i.size := by rw [hisz]; exact hvl'
            -- a new row
            have grown : cap < es.length + es'.length → OpGoal G E.an B0 st a o (apply (clr ρm x ++ puts o.dst (.val (.slice sz (es ++ es')) [0])) ρ) σ := by
              intro hgr
              have hrun : ∃ C cs, (Builtin.append_ #[tx, tx] o.type #[a.eval x, a.eval y]).run G.P st.w = .ok (.slice (some ⟨st.w.heap.size, 0, none⟩) (es.length + es'.length) C) (st.w.drew.alloc (.cells cs e)) ∧
                  es.length + es'.length ≤ C ∧ C * sz ≤ cs.size ∧ cs.toList.take ((es.length + es'.length) * sz) = vs ++ vs' := by
                have hC := grownCap_ge st.w (es.length + es'.length) cap e
                have hsize : ∀ (front : List Value), front.length = (es.length + es'.length) * sz → (grownCap st.w (es.length + es'.length) cap e) * sz ≤ (front.toArray ++ Builtin.zeroCells z.cells (grownCap st.w (es.length + es'.length) cap e - (es.length + es'.length))).size := by
                  intro front hfr
                  simp only [Array.size_append, List.size_toArray, size_zeroCells, hzs, hfr, ← Nat.add_mul]
                  exact Nat.mul_le_mul_right _ (by omega)
                by_cases hn0 : vs = []
                · have hes0 : es = [] := by
                    rw [hn0] at hvl
                    rcases Nat.eq_zero_or_pos es.length with h0 | h0
                    · exact List.eq_nil_of_length_eq_zero h0
                    · have : 0 < es.length * sz := Nat.mul_pos h0 hpos
                      simp at hvl; omega
                  subst hes0; subst hn0
                  simp only [List.length_nil, Nat.zero_add] at *
                  cases pa with
                  | none =>
                    have hcap0 : cap = 0 := by
                      cases g with
                      | none => exact hg1 none 0 cap he
                      | some b => obtain ⟨n, c2, s2, e2, v2, t2, _, k2, _⟩ := hg1; rw [he] at k2; cases k2
                    subst hcap0
                    refine ⟨_, _, by rw [he, he']; exact run_append_nil st.w tx o.type e i z hu hi hz ⟨b', off', none⟩ es'.length cap' vs' hl' hnews hm' (by omega) (by omega), hC, ?_, ?_⟩
                    · exact hsize vs' hvl'
                    · rw [← hvl']; simp
                  | some pa =>
                    have key := run_append_grow (P := G.P) st.w tx o.type e i z hu hi hz pa 0 cap [] (by simp) (by simp) ⟨b', off', none⟩ es'.length cap' vs' hl' hnews (by omega) (by omega) (by simpa using growslice_fits (by omega) (by simpa using hnb))
                    simp only [Nat.zero_add] at key
                    refine ⟨_, _, by rw [he, he']; exact key, hC, ?_, ?_⟩
                    · have := hsize vs' hvl'
                      simpa using this
                    · rw [← hvl']; simp
                · obtain ⟨b, off, rfl, hcell⟩ := hadr.resolve_left hn0
                  refine ⟨_, _, by rw [he, he']; exact run_append_grow st.w tx o.type e i z hu hi hz ⟨b, off, none⟩ es.length cap vs (by rw [hisz]; exact hvl) (fun j v hv => by rw [addr_add]; exact (hcell j v hv).1) ⟨b', off', none⟩ es'.length cap' vs' hl' hnews hgr (by omega) (growslice_fits (by omega) hnb), hC, ?_, ?_⟩
                  · have := hsize (vs ++ vs') (by rw [List.length_append, hvl, hvl', Nat.add_mul])
                    simpa using this
                  · have : (vs ++ vs').length = (es.length + es'.length) * sz := by rw [List.length_append, hvl, hvl', Nat.add_mul]
                    rw [← this]
                    simp only [Array.toList_append]
                    rw [List.take_append_of_le_length (by simp)]
                    exact List.take_of_length_le (by simp)
              obtain ⟨C, cs, hrun, hC1, hC2, hC3⟩ := hrun
              have hnew : Newer st.w (st.w.drew.alloc (.cells cs e)) := (Newer.drew _).trans (Newer.alloc _ _)
              have hsz2 : (st.w.drew.alloc (.cells cs e)).heap.size = st.w.heap.size + 1 := by simp
              let ext' : Nat → Nat := fun b => if b = st.w.heap.size then (es.length + es'.length) * sz else st.ext b
              have hext : ∀ b, b < st.w.heap.size → ext' b = st.ext b := fun b hb => by simp only [ext']; rw [if_neg (by omega)]
              have hextn : ext' st.w.heap.size = (es.length + es'.length) * sz := by simp [ext']
              obtain ⟨hok, hst⟩ := h1.newer hnew hext (fun b hb => by simp only [ext']; rw [if_neg (by omega)]; exact h.sr.fresh b (by omega))
              have hgrow := hnew.grow h.sr hext
              have hcell2 : (st.w.drew.alloc (.cells cs e)).heap[st.w.heap.size]? = some (.cells cs e (0, 0)) := heap_alloc_new st.w.drew _
              refine goal_append (st' := { st with w := st.w.drew.alloc (.cells cs e), ext := ext' }) (g := some st.w.heap.size) (t := tx) (x := x) hok hfit (run _ _ hrun) ?_ ?_ ?_ ?_ hst
              · exact rep_slice_mk (by simp) hC1 hess (by rw [flatMap_append_cells]; exact (hr.mono hgrow).append (hr'.mono hgrow)) (fun x hx => (List.mem_append.1 hx).elim (h1c x) (hone' x)) hcell2 hC3 (Nat.le_of_eq hextn.symm)
              · exact ⟨_, C, sz, _, cs, e, rfl, rfl, hextn, hcell2, hC2⟩
              · intro b hb; cases hb
                exact ⟨h.top, by simp only; omega, fun hS => by have := h.sr.small _ hS; omega⟩
              · intro b hb p hp; cases hb
                have := (h1.priv p _ hp).2.1
                omega
            cases g with
            | none =>
              have : cap = es.length := hg1 pa es.length cap he
              exact grown (by omega)
            | some gb =>
              obtain ⟨n2, cap2, sz2, es2, cur, et, k1, k2, k3, k4, k5⟩ := hg1
              cases k1
              rw [he] at k2; cases k2
              by_cases hroom : es.length + es'.length ≤ cap
              · -- in its own row
                have hfitr : es.length * i.size + vs'.length ≤ cur.size := by
                  rw [hisz, hvl', ← Nat.add_mul]; exact Nat.le_trans (Nat.mul_le_mul_right _ hroom) k5
                have hrun := run_append_own (P := G.P) st.w tx o.type e et i hu hi gb es.length cap cur k4 ⟨b', off', none⟩ es'.length cap' vs' hl' hnews hone' hroom hfitr
                rw [← he, ← he'] at hrun
                have hclen : es.length * sz ≤ cur.size := Nat.le_trans (Nat.mul_le_mul_right _ hcap) k5
                let new : Array Value := (cur.toList.take (es.length * i.size) ++ vs' ++ cur.toList.drop (es.length * i.size + vs'.length)).toArray
                have hnewl : new.toList = cur.toList.take (es.length * sz) ++ vs' ++ cur.toList.drop (es.length * sz + vs'.length) := by simp [new, hisz]
                have hheap : (st.w.setRow gb new).heap[gb]? = some (.cells new et (0, 0)) := setRow_heap _ _ _ _ _ _ k4
                let ext' : Nat → Nat := fun b => if b = gb then (es.length + es'.length) * sz else st.ext b
                have hext : ∀ b, b ≠ gb → ext' b = st.ext b := fun b hb => by simp only [ext']; rw [if_neg hb]
                have hextg : ext' gb = (es.length + es'.length) * sz := by simp [ext']
                have hgrow : Grow st.w st.ext st.ι (st.w.setRow gb new) ext' st.ι := by
                  refine (Turn.setRow st.w gb new).grow hext (by rw [hextg, k3]; exact Nat.mul_le_mul_right _ (by omega)) fun oo v ho hv => ?_
                  rw [cell_row hheap]
                  rw [cell_row k4] at hv
                  rw [k3] at ho
                  have : new.toList[oo]? = some v := by
                    rw [hnewl, List.append_assoc, List.getElem?_append_left (by simp; omega), List.getElem?_take_of_lt ho]
                    simpa using hv
                  simpa using this
                obtain ⟨hok, hst⟩ := h1.turn hgrow (Turn.setRow st.w gb new) hext (hg3 gb rfl) (hg2 gb rfl)
                have hvs : vs = cur.toList.take (es.length * sz) := by
                  by_cases hv0 : vs = []
                  · rw [hv0] at hvl
                    have : es.length * sz = 0 := by simpa using hvl.symm
                    rw [this, hv0]; rfl
                  · obtain ⟨b, off, hb, hcell⟩ := hadr.resolve_left hv0
                    injection hb with hb; injection hb with hb1' hb2'
                    subst hb1'; subst hb2'
                    apply List.ext_getElem?
                    intro j
                    rcases Nat.lt_or_ge j vs.length with hj | hj
                    · have := (hcell j vs[j] (List.getElem?_eq_getElem hj)).1
                      rw [Nat.zero_add, cell_row k4] at this
                      rw [List.getElem?_take_of_lt (by omega), List.getElem?_eq_getElem hj]
                      simpa using this.symm
                    · rw [List.getElem?_eq_none hj, List.getElem?_eq_none (by simp; omega)]
                refine goal_append (st' := { st with w := st.w.setRow gb new, ext := ext' }) (g := some gb) (t := tx) (x := x) hok hfit (run _ _ hrun) ?_ ?_ ?_ ?_ hst
                · refine rep_slice_mk (us := vs ++ vs') (by simp) hroom hess (by rw [flatMap_append_cells]; exact (hr.mono hgrow).append (hr'.mono hgrow)) (fun x hx => (List.mem_append.1 hx).elim (h1c x) (hone' x)) hheap ?_ (Nat.le_of_eq hextg.symm)
                  rw [hnewl, ← hvs, ← hvl]
                  have : (vs ++ vs').length = (es.length + es'.length) * sz := by rw [List.length_append, hvl, hvl', Nat.add_mul]
                  rw [← this, List.take_append_of_le_length (Nat.le_refl _)]
                  exact List.take_of_length_le (Nat.le_refl _)
                · refine ⟨_, cap, sz, _, new, et, rfl, rfl, hextg, hheap, ?_⟩
                  have : new.size = cur.size := by
                    have := congrArg List.length hnewl
                    rw [hisz] at hfitr
                    simp only [List.length_append, List.length_take, List.length_drop, Array.length_toList] at this
                    omega
                  rw [this]; exact k5
                · intro b hb; cases hb
                  have := hg2 gb rfl
                  exact ⟨this.1, by simpa using this.2.1, this.2.2⟩
                · intro b hb p; cases hb
                  exact hg3 gb rfl p
              · exact grown (by omega)
        · simp at hc
      · simp at hc
    · simp at hc
  · simp at hc

end Go.AI
