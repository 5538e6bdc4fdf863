/- The abstract machine: slices in private rows: appended to; every operation on private rows. -/
import Derived.Test.YtdpamhejneicdaaGreatDoorZAID
namespace Go.AI
set_option linter.unusedVariables false
set_option linter.unusedSimpArgs false
open Go

variable {G : Prg} {an : Ann} {E : EE} {B0 : Nat → Prop} {st : St} {ρ ρ0 ρm : Env} {σ σ' : Sig} {ups : List (Nat × Slot)} {a : Act} {o : Oper} {tmps : Array Value} {ops : Array Oper}

theorem mem_zeroCells {z : Array Value} {n : Nat} {x : Value} (hz : 0 < z.size) (h : x ∈ (Builtin.zeroCells z n).toList) : x ∈ z.toList := by
  simp only [Builtin.zeroCells, Array.toList_map, List.mem_map] at h
  obtain ⟨i, _, rfl⟩ := h
  have hlt : i % z.size < z.size := Nat.mod_lt _ hz
  rw [getElem!_pos z (i % z.size) hlt]
  simp

theorem sound_arr_append {args : Array Operand} {tys : Array TypeId} (ho : o.op = .call { callee := .builtin .append, args := args, argTypes := tys }) (h : OK G E.an B0 st ρ σ a.tmps) (hs : Sub ρm ρ) (hm : ∀ t ∈ rdOf E.an ops o, ρm t = ρ t)
    (hc : arrOp G E o ρm = some (some ups)) (hf : Fit E.an ups) : OpGoal G E.an B0 st a o (apply ups ρ) σ := by
  simp only [arrOp, ho] at hc
  split at hc
  · rename_i x y tx ty hargs htys
    split at hc
    · rename_i s n hl
      obtain ⟨tt, rfl, hρ⟩ := larrOf_spec hs hl
      obtain ⟨k1, sz0, es0, k2, k3⟩ := larr_slot h hρ
      simp only [Option.some.injEq, Option.bind_eq_bind, Option.bind_eq_some_iff] at hc
      obtain ⟨q, hq, hc⟩ := hc
      split at hc
      · rename_i sz es d e sz' es' hms hd hu
        have hm' := hs.val hms (by simp)
        rw [k2] at hm'
        injection hm' with e1 e2
        subst e1; subst e2
        split at hc
        · rename_i hcond
          obtain ⟨c0, hdl, hds, hno, hn, hxy, hsz, hsz', hpos, hlen, hb1, hb0, hzc⟩ := hcond
          simp only [Option.some.injEq] at hc
          subst hxy
          subst hsz'
          obtain ⟨l, hll⟩ : ∃ l, l = (E.an.into.filter (·.2 == s)).map (·.1) ++ [s] := ⟨_, rfl⟩
          have hups : ups = l.map (fun t => (t, Slot.none)) ++ [(d, .arr sz' (es0.take n ++ es'))] := by
            rw [← hc, hll]; simp [Function.comp_def]
          subst hups
          -- the slots into the row are emptied
          have hnoloc : ∀ t, t ∈ (E.an.into.filter (·.2 == s)).map (·.1) → (ρ t).isLoc = false := by
            intro t ht
            obtain ⟨p, hp, rfl⟩ := List.mem_map.1 ht
            rw [List.all_eq_true] at c0
            have := c0 p (List.mem_filter.1 hp).1
            have hnl : E.an.loc.contains p.1 = false := by simpa using this
            by_cases hn0 : ρ p.1 = .none
            · rw [hn0]; rfl
            · rcases fits_loc (h.fits p.1 hn0) with k | k
              · rw [k]; exact hnl
              · exact absurd k hn0
          have hsl : s ∈ l := by rw [hll]; simp
          obtain ⟨h0, hhas⟩ := h.erase l (fun t s' off ht hs' => by
              rw [hll, List.mem_append] at hs' ⊢
              rcases hs' with hs' | hs'
              · have k := h.lptr t s' off ht
                rw [hnoloc s' hs'] at k; cases k
              · simp at hs'; subst hs'
                exact .inl (fits_into h (.inl ⟨off, ht⟩))) (fun t s' m ht hs' => by
              rw [hll, List.mem_append] at hs' ⊢
              rcases hs' with hs' | hs'
              · obtain ⟨z1, z2, k, _⟩ := h.larr t s' m ht
                have := hnoloc s' hs'
                rw [k] at this; cases this
              · simp at hs'; subst hs'
                exact .inl (fits_into h (.inr ⟨m, ht⟩)))
          have hmd : ∀ p ∈ E.an.into, p.2 = d → ρm p.1 = ρ p.1 := by
            intro p hp hpq
            refine hm p.1 ?_
            unfold rdOf
            rw [List.mem_append, List.mem_append]
            refine .inl (.inr ?_)
            simp only [ho, hd, hdl, if_true, List.mem_map, List.mem_filter]
            exact ⟨p, ⟨hp, by simp [hpq]⟩, rfl⟩
          have hno1 := noInto_spec h hmd hno
          have hget : ∀ t, apply (l.map fun t => (t, Slot.none)) ρ t = .none ∨ apply (l.map fun t => (t, Slot.none)) ρ t = ρ t := by
            intro t
            rw [apply_none]
            split
            · exact .inl rfl
            · exact .inr rfl
          have hno0 : (∀ t off, apply (l.map fun t => (t, Slot.none)) ρ t ≠ .lptr d off) ∧ ∀ t m, apply (l.map fun t => (t, Slot.none)) ρ t ≠ .larr d m := by
            constructor
            · intro t off e
              rcases hget t with k | k
              · rw [k] at e; cases e
              · rw [k] at e; exact hno1.1 t off e
            · intro t off e
              rcases hget t with k | k
              · rw [k] at e; cases e
              · rw [k] at e; exact hno1.2 t off e
          have hf' : Fit E.an [(d, .arr sz' (es0.take n ++ es'))] := fun u hu => hf u (List.mem_append_right _ hu)
          obtain ⟨s1, s2, s3, s4, vs, et, s5, s6, s7, s8⟩ := arr_slot h k2
          have hbox : Has st.L ρ (.box s) (st.L.β s) := ⟨by rw [k2]; rfl, rfl⟩
          have hpb := h.priv _ _ hbox
          have hnb : ∀ p, ¬ Has st.L (apply (l.map fun t => (t, Slot.none)) ρ) p (st.L.β s) := by
            intro p hp
            obtain ⟨q1, q2⟩ := hhas p _ hp
            have := h.inj _ _ _ q1 hbox
            subst this
            exact q2 hsl
          rw [Option.map_eq_some_iff] at hzc
          obtain ⟨zc, hzc, hzl⟩ := hzc
          obtain ⟨i, z, hi, hz, hzt⟩ := zeroC_info hzc
          obtain ⟨zt1, zt2, _⟩ := tcells_rep (w := st.w) (ext := st.ext) (ι := st.ι) _ _ _ _ hzt
          have hzs : z.cells.size = sz' := by
            have := zt1.length
            rw [hzl] at this; simpa using this.symm
          have hisz : i.size = sz' := by rw [hsz]; simp [Program.cellsOf, hi]
          have hib : i.bytes ≤ 1024 := by simpa [hi] using hb1
          have hargs' : args = #[.tmp tt, y] := by cases args; simp at hargs; rw [hargs]
          have htys' : tys = #[tx, tx] := by cases tys; simp at htys; rw [htys]
          have run : ∀ v w', (Builtin.append_ #[tx, tx] o.type #[a.eval (.tmp tt), a.eval y]).run G.P st.w = .ok v w' → (execOp a.eval o).run G.P st.w = .ok (.value v) w' := by
            intro v w' hr
            simp [execOp, ho, hargs', htys', resolve, invoke, builtin, hr]
          have he : a.eval (.tmp tt) = .slice (some ⟨st.L.β s, 0, none⟩) n (st.L.κ s) := k1
          obtain ⟨pa', cap', vs', he', hcap', hes', hr', hone', hadr'⟩ := rep_slice_inv (opv_rep h rfl hs hq)
          have hvl' := len_flat hes' hr'
          have hvs : es0.length * sz' ≤ vs.size := Nat.le_trans (Nat.mul_le_mul_right _ s2) s6
          have hns : n * sz' ≤ es0.length * sz' := Nat.mul_le_mul_right _ k3
          have hess : ∀ e ∈ es0.take n ++ es', e.cells.length = sz' := fun x hx => by
            rcases List.mem_append.1 hx with hx | hx
            · exact s4 x (List.mem_of_mem_take hx)
            · exact hes' x hx
          have htl : (es0.take n).length = n := by simp; omega
          -- the first elements
          have hfront : Reps st.w st.ext st.ι ((es0.take n).flatMap AV.cells) (vs.toList.take (n * sz')) := by
            have := s7.take (n * sz')
            rw [flat_take s4, List.take_take, Nat.min_eq_left hns] at this
            exact this
          have hfl : (vs.toList.take (n * sz')).length = n * sz' := by simp; omega
          rw [apply_append]
          by_cases hme : es' = []
          · subst hme
            have hrun := run _ _ (by rw [he, he']; exact run_append_zero st.w tx o.type e i hu hi (some ⟨st.L.β s, 0, none⟩) pa' n (st.L.κ s) cap' (by omega))
            exact goal_arr (b := st.L.β s) (κ := st.L.κ s) (vs := vs) (e := et) h0 (Step.refl _ _) hd hf' hno0 hrun hpb hnb (by rw [List.append_nil, htl]) (by rw [List.append_nil, htl]; omega) s3 hess s5 s6
              (by rw [List.append_nil, htl]; exact hfront) s8
          · have hm' : 0 < es'.length := List.length_pos_iff.2 hme
            have hne' : vs' ≠ [] := by
              intro hv; rw [hv] at hvl'
              have : 0 < es'.length * sz' := Nat.mul_pos hm' hpos
              simp at hvl'; omega
            obtain ⟨b', off', rfl, hcell'⟩ := hadr'.resolve_left hne'
            have hnews : ∀ j u, vs'[j]? = some u → st.w.cell? ((⟨b', off', none⟩ : Addr).add j) = some u := fun j u hu => by rw [addr_add]; exact (hcell' j u hu).1
            have hl' : vs'.length = es'.length * i.size := by rw [hisz]; exact hvl'
            have hlen2 : (es0.take n ++ es').length = n + es'.length := by rw [List.length_append, htl]
            by_cases hroom : n + es'.length ≤ st.L.κ s
            · -- in its own row
              have hfitr : n * i.size + vs'.length ≤ vs.size := by
                rw [hisz, hvl', ← Nat.add_mul]; exact Nat.le_trans (Nat.mul_le_mul_right _ hroom) s6
              have hrun := run_append_own (P := G.P) st.w tx o.type e et i hu hi (st.L.β s) n (st.L.κ s) vs s5 ⟨b', off', none⟩ es'.length cap' vs' hl' hnews hone' hroom hfitr
              rw [← he, ← he'] at hrun
              let new : Array Value := (vs.toList.take (n * i.size) ++ vs' ++ vs.toList.drop (n * i.size + vs'.length)).toArray
              have hnewl : new.toList = vs.toList.take (n * sz') ++ vs' ++ vs.toList.drop (n * sz' + vs'.length) := by simp [new, hisz]
              have hheap : (st.w.setRow (st.L.β s) new).heap[st.L.β s]? = some (.cells new et (0, 0)) := setRow_heap _ _ _ _ _ _ s5
              have hgrow : Grow st.w st.ext st.ι (st.w.setRow (st.L.β s) new) st.ext st.ι := by
                refine (Turn.setRow st.w (st.L.β s) new).grow (fun _ _ => rfl) (Nat.le_refl _) fun oo v ho hv => ?_
                rw [s3] at ho; omega
              obtain ⟨hok, hst⟩ := h0.turn hgrow (Turn.setRow st.w (st.L.β s) new) (fun _ _ => rfl) hnb hpb
              have hnsz : new.size = vs.size := by
                have := congrArg List.length hnewl
                rw [hisz] at hfitr
                simp only [List.length_append, List.length_take, List.length_drop, Array.length_toList] at this
                omega
              refine goal_arr (b := st.L.β s) (κ := st.L.κ s) (vs := new) (e := et) hok hst hd hf' hno0 (run _ _ hrun) ⟨hpb.1, by simpa using hpb.2.1, hpb.2.2⟩ hnb (by rw [hlen2]) (by rw [hlen2]; exact hroom) s3 hess hheap
                (by rw [hnsz]; exact s6) ?_ (fun x hx => ?_)
              · rw [flatMap_append_cells, hnewl, hlen2]
                have : (vs.toList.take (n * sz') ++ vs').length = (n + es'.length) * sz' := by rw [List.length_append, hfl, hvl', Nat.add_mul]
                rw [← this, List.take_append_of_le_length (Nat.le_refl _), List.take_of_length_le (Nat.le_refl _)]
                exact (hfront.mono hgrow).append (hr'.mono hgrow)
              · rw [hnewl] at hx
                simp only [List.mem_append] at hx
                rcases hx with (hx | hx) | hx
                · exact s8 x (List.mem_of_mem_take hx)
                · exact hone' x hx
                · exact s8 x (List.mem_of_mem_drop hx)
            · -- a new row
              have hgr : st.L.κ s < n + es'.length := by omega
              have hnb2 : (n + es'.length) * i.bytes ≤ 140737488355328 := Nat.le_trans (Nat.mul_le_mul hlen hib) (by decide)
              have hC := grownCap_ge st.w (n + es'.length) (st.L.κ s) e
              have hrun := run_append_grow (P := G.P) st.w tx o.type e i z hu hi hz ⟨st.L.β s, 0, none⟩ n (st.L.κ s) (vs.toList.take (n * sz')) (by rw [hisz]; exact hfl)
                (fun j v hv => by
                  rw [addr_add, cell_row s5, Nat.zero_add]
                  have hlt := (List.getElem?_eq_some_iff.1 hv).1
                  rw [List.getElem?_take_of_lt (by rw [hfl] at hlt; exact hlt)] at hv
                  simpa using hv) ⟨b', off', none⟩ es'.length cap' vs' hl' hnews hgr (by omega) (growslice_fits (by omega) hnb2)
              rw [← he, ← he'] at hrun
              obtain ⟨cs, hcs⟩ : ∃ cs, cs = (vs.toList.take (n * sz')).toArray ++ vs'.toArray ++ Builtin.zeroCells z.cells (grownCap st.w (n + es'.length) (st.L.κ s) e - (n + es'.length)) := ⟨_, rfl⟩
              rw [← hcs] at hrun
              have hnew : Newer st.w (st.w.drew.alloc (.cells cs e)) := (Newer.drew _).trans (Newer.alloc _ _)
              obtain ⟨hok, hst⟩ := h0.newer (ext' := st.ext) hnew (fun _ _ => rfl) (fun b hb => h.sr.fresh b (Nat.le_trans hnew.size hb))
              have hgrow := hnew.grow h.sr (ext' := st.ext) (fun _ _ => rfl)
              have hcell2 : (st.w.drew.alloc (.cells cs e)).heap[st.w.heap.size]? = some (.cells cs e (0, 0)) := heap_alloc_new st.w.drew _
              have hpre : (vs.toList.take (n * sz') ++ vs').length = (n + es'.length) * sz' := by rw [List.length_append, hfl, hvl', Nat.add_mul]
              refine goal_arr (b := st.w.heap.size) (κ := grownCap st.w (n + es'.length) (st.L.κ s) e) (vs := cs) (e := e) hok hst hd hf' hno0 (run _ _ hrun)
                ⟨h.top, by simp, fun hS => by have := h.sr.small _ hS; omega⟩ (fun p hp => by have := (h0.priv p _ hp).2.1; omega) (by rw [hlen2]) (by rw [hlen2]; exact hC) (h.sr.fresh _ (Nat.le_refl _)) hess hcell2 ?_ ?_ (fun x hx => ?_)
              · rw [hcs]
                simp only [Array.size_append, List.size_toArray, size_zeroCells, hzs, hfl, hvl']
                rw [← Nat.add_mul, ← Nat.add_mul]
                exact Nat.mul_le_mul_right _ (by omega)
              · have htk : cs.toList.take ((vs.toList.take (n * sz') ++ vs').length) = vs.toList.take (n * sz') ++ vs' := by
                  rw [hcs]
                  simp only [Array.toList_append]
                  rw [List.take_append_of_le_length (by simp)]
                  exact List.take_of_length_le (Nat.le_refl _)
                rw [flatMap_append_cells, hlen2, ← hpre, htk]
                exact (hfront.mono hgrow).append (hr'.mono hgrow)
              · rw [hcs] at hx
                simp only [Array.toList_append, List.mem_append] at hx
                rcases hx with (hx | hx) | hx
                · exact s8 x (List.mem_of_mem_take hx)
                · exact hone' x hx
                · exact zt2 x (mem_zeroCells (by omega) hx)
        · simp at hc
      · simp at hc
    · simp at hc
  · simp at hc

theorem sound_arr {ops : Array Oper} (h : OK G E.an B0 st ρ σ a.tmps) (hs : Sub ρm ρ) (hm : ∀ t ∈ rdOf E.an ops o, ρm t = ρ t) (hc : arrOp G E o ρm = some (some ups)) (hf : Fit E.an ups) :
    OpGoal G E.an B0 st a o (apply ups ρ) σ := by
  cases ho : o.op with
  | move x => exact sound_arr_move (.inl ho) h hs hm hc hf
  | assign x => exact sound_arr_move (.inr ho) h hs hm hc hf
  | buildSlice t len parts => exact sound_arr_build ho h hs hm hc hf
  | indexAddr t x i => exact sound_arr_indexAddr ho h hs hc hf
  | slice t x lo hi mx => exact sound_arr_slice ho h hs hc hf
  | load t x => exact sound_arr_load ho h hs hc hf
  | call c =>
    obtain ⟨callee, args, tys⟩ := c
    cases callee with
    | builtin b =>
      cases b with
      | append => exact sound_arr_append ho h hs hm hc hf
      | len => exact sound_arr_len ho h hs hc hf
      | _ => simp [arrOp, ho] at hc
    | value f => simp [arrOp, ho] at hc
    | invoke r n => simp [arrOp, ho] at hc
  | _ => simp [arrOp, ho] at hc



end Go.AI
