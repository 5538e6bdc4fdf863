/- The abstract machine: regions that append an element and fill it where it stands. -/
import Derived.Test.YtdpamhejneicdaaGreatDoorZAI16
namespace Go.AI
set_option linter.unusedVariables false
set_option linter.unusedSimpArgs false
open Go

variable {G : Prg} {an : Ann} {E : EE} {B0 : Nat → Prop} {st st0 : St} {ρ ρm ρ' : Env} {σ σ' : Sig} {a : Act} {o : Oper} {tmps : Array Value} {O : Task → Option Res} {ops : Array Oper} {quiet : Bool}

theorem op_value {r : Option Nat} {n i : Nat} {v : Value} {w w' : World} {K : Act → World → Prop} {Q : Exit → Act → World → Prop} (ho : ops[i]? = some o) (hg : o.guard = none) (hd : ∀ c, o.op ≠ .defer c)
    (hr : (execOp a.eval o).run G.P w = .ok (.value v) w') (hK : K (a.put o.dst v) w') : wpOpIn (fen r) n G.P ops Q i K a w := by
  unfold wpOpIn
  simp only [ho]
  have hw : Region.wanted o (yielded ops a.tmps) = true := by simp [Region.wanted, hg]
  rw [hw]
  simp only [if_true]
  refine ⟨fun _ _ => trivial, ?_⟩
  rw [Oper.semAt_eq _ _ _ hd, hr, Oper.uponIn_value]
  exact hK

theorem op_skip {r : Option Nat} {n i : Nat} {w w' : World} {K : Act → World → Prop} {Q : Exit → Act → World → Prop} (ho : ops[i]? = some o) (hg : o.guard = none) (hd : ∀ c, o.op ≠ .defer c)
    (hr : (execOp a.eval o).run G.P w = .ok .skip w') (hK : K (a.put o.dst undef) w') : wpOpIn (fen r) n G.P ops Q i K a w := by
  unfold wpOpIn
  simp only [ho]
  have hw : Region.wanted o (yielded ops a.tmps) = true := by simp [Region.wanted, hg]
  rw [hw]
  simp only [if_true]
  refine ⟨fun _ _ => trivial, ?_⟩
  rw [Oper.semAt_eq _ _ _ hd, hr, Oper.uponIn_skip]
  exact hK

/-- A store's run, told out. -/
theorem store_run {t : TypeId} {p x : Operand} (ho : o.op = .store t p x) {b off : Nat} {vs : Array Value} {e : TypeId} {w : World} (he : a.eval p = .pointer (some ⟨b, off, none⟩)) (hh : w.heap[b]? = some (.cells vs e (0, 0)))
    (h1 : ∀ y ∈ (a.eval x).cells.toList, y.oneCell' = true) (h3 : (a.eval x).cells.toList.length = G.P.cellsOf t) (hi : (G.P.info? t).isSome = true) (hle : off + G.P.cellsOf t ≤ vs.size) :
    (execOp a.eval o).run G.P w = .ok .skip (w.setRow b (vs.toList.take off ++ (a.eval x).cells.toList ++ vs.toList.drop (off + (a.eval x).cells.toList.length)).toArray) := by
  have := run_storeCells_at G.P b off e (a.eval x).cells.toList 0 vs w hh (by rw [h3]; omega) h1
  have hsz := sizeOf_run (P := G.P) (t := t) w hi
  simp only [Nat.add_zero] at this
  have hne : (a.eval x).cells.size = G.P.cellsOf t := by simpa using h3
  simp [execOp, ho, he, Instr.storeAt, Instr.sureAddr, storeVar, hsz, hne]
  rw [this]; simp [hne]

theorem setRow_cells {w : World} {b : Nat} {cs vs : Array Value} {e : TypeId} (h : w.heap[b]? = some (.cells vs e (0, 0))) : (w.setRow b cs).heap[b]? = some (.cells cs e (0, 0)) := setRow_heap _ _ _ _ _ _ h

theorem eval_put_other {t : Nat} {d : Nat} {c : Value} (h : t ≠ d) : (a.put (some d) c).eval (.tmp t) = a.eval (.tmp t) := by
  simp only [Act.eval, Act.put]
  rw [Array.getD_eq_getD_getElem?, Array.getD_eq_getD_getElem?, Array.getElem?_setIfInBounds_ne (Ne.symm h)]

theorem eval_put_same {d : Nat} {c : Value} (h : d < a.tmps.size) : (a.put (some d) c).eval (.tmp d) = c := by
  simp only [Act.eval, Act.put]
  rw [Array.getD_eq_getD_getElem?, Array.getElem?_setIfInBounds_self_of_lt h]; rfl

theorem eval_put_apart {d q : Nat} {c : Value} {x : Operand} (h : apart2 d q x = true) : (a.put (some d) c).eval x = a.eval x ∧ (a.put (some q) c).eval x = a.eval x := by
  cases x with
  | tmp t =>
    simp only [apart2, Bool.and_eq_true, bne_iff_ne, ne_eq] at h
    exact ⟨eval_put_other h.1, eval_put_other h.2⟩
  | _ => exact ⟨rfl, rfl⟩

theorem setRow_setRow (w : World) (b : Nat) (x y : Array Value) : (w.setRow b x).setRow b y = w.setRow b y := by
  unfold World.setRow
  congr 1
  apply Array.ext_getElem?
  intro i
  simp only [Array.getElem?_modify]
  by_cases h : b = i
  · simp only [h, if_true]
    cases w.heap[i]? with
    | none => rfl
    | some o => cases o <;> rfl
  · simp only [h, if_false]

theorem setRow_comm (w : World) {b c : Nat} (h : b ≠ c) (x y : Array Value) : (w.setRow b x).setRow c y = (w.setRow c y).setRow b x := by
  unfold World.setRow
  congr 1
  apply Array.ext_getElem?
  intro i
  simp only [Array.getElem?_modify]
  by_cases hb : b = i
  · have hc : ¬ c = i := fun hc => h (hb.trans hc.symm)
    simp only [hb, hc, if_true, if_false]
  · by_cases hc : c = i
    · simp only [hb, hc, if_true, if_false]
    · simp only [hb, hc, if_false]

theorem Newer.setRow {w w' : World} (h : Newer w w') {k : Nat} (hk : w.heap.size ≤ k) (cs : Array Value) : Newer w (w'.setRow k cs) :=
  ⟨by simpa [World.setRow] using h.size, fun b hb => by rw [setRow_other w' k b cs (by omega)]; exact h.blk b hb, h.os, h.tape, h.output⟩

def PenEnd (G : Prg) (E : EE) (B0 : Nat → Prop) (st : St) (a : Act) (A : Oper) (σ : Sig) (ρ2 : Env) (d q n sz : Nat) (vc : List Value) : Prop :=
  ∃ (w1 : World) (b C : Nat) (cur : Array Value) (e0 : TypeId) (st2 : St), (execOp a.eval A).run G.P st.w = .ok (.value (.slice (some ⟨b, 0, none⟩) (n + 1) C)) w1 ∧ w1.heap[b]? = some (.cells cur e0 (0, 0)) ∧ n * sz + sz ≤ cur.size ∧
    st2.w = w1.setRow b (cur.toList.take (n * sz) ++ vc ++ cur.toList.drop (n * sz + sz)).toArray ∧ Has st2.L ρ2 (.own d 0) b ∧
    OK G E.an B0 st2 ρ2 σ ((a.tmps.setIfInBounds d (.slice (some ⟨b, 0, none⟩) (n + 1) C)).setIfInBounds q (.pointer (some ⟨b, n * sz, none⟩))) ∧ Step B0 st st2

/-- What the append, the element's address and its store come to together. -/
theorem pen_three {A I S B : Oper} {ups : List (Nat × Slot)} (h : OK G E.an B0 st ρ σ a.tmps) (hc : penUps G E A I S B ρ = some ups) :
    ∃ (tx ts : TypeId) (x y ii vs pb : Operand) (d q tb : Nat) (n : Nat), A.op = .call { callee := .builtin .append, args := #[x, y], argTypes := #[tx, tx] } ∧ I.op = .indexAddr tx (.tmp d) ii ∧ S.op = .store ts (.tmp q) vs ∧ B.op = .store tb pb (.tmp d) ∧
      A.dst = some d ∧ I.dst = some q ∧ S.dst = none ∧ B.dst = none ∧ A.guard = none ∧ I.guard = none ∧ S.guard = none ∧ B.guard = none ∧ d < E.an.ntmps ∧ q < E.an.ntmps ∧ d ≠ q ∧
      apart2 d q ii = true ∧ apart2 d q vs = true ∧ apart2 d q pb = true ∧ (∃ k, a.eval ii = .int k n) ∧
      (∀ y ∈ (a.eval vs).cells.toList, y.oneCell' = true) ∧ (a.eval vs).cells.toList.length = G.P.cellsOf ts ∧ (G.P.info? ts).isSome = true ∧
      (∃ e, G.P.underlying tx = some (.slice e) ∧ (G.P.info? e).isSome = true ∧ G.P.cellsOf e = G.P.cellsOf ts) ∧ (∃ es v, apply ups ρ d = .val (.slice (G.P.cellsOf ts) (es ++ [v])) [0]) ∧
      PenEnd G E B0 st a A σ (apply ups ρ) d q n (G.P.cellsOf ts) (a.eval vs).cells.toList := by
  unfold penUps at hc
  split at hc
  · rename_i args tys ti d1 ii ts q1 vs tb pb d2 hA hI hS hB
    split at hc
    · rename_i x y tx ty d q hargs htys hAd hId hSd hBd
      split at hc
      · rename_i e sz es sz' es' kk n v hu hx hy hi hv
        split at hc
        · rename_i hcond
          obtain ⟨⟨a1, a2, a3, a4, a5, a6, a7, a8⟩, ⟨b1, b2, b3, b4, b5, b6⟩, ⟨g1, g2, g3, g4⟩, ⟨c1, c2, c3, c4, c5, c6, c7, c8⟩, ⟨d1', d2', d3', d4'⟩, e1, e2⟩ := hcond
          subst a1; subst a2; subst a3; subst a5; have a6' := a6.symm; subst a6'; have c2' := c2.symm; subst c2'
          simp only [Option.some.injEq] at hc
          have hs : Sub ρ ρ := fun _ _ => rfl
          have hargs' : args = #[x, y] := by cases args; simp at hargs; rw [hargs]
          have htys' : tys = #[tx, tx] := by cases tys; simp at htys; rw [htys]
          subst hargs'; subst htys'
          have hii := rep_int_inv (opv_rep h rfl hs hi)
          obtain ⟨o1, o2⟩ := (opv_rep h rfl hs hv).one d3'
          have o3 : (a.eval vs).cells.toList.length = sz := by rw [← o2.length, d2']
          obtain ⟨pa, cap, ovs, he, hcap, hes, hr, h1c, hadr⟩ := rep_slice_inv (opv_rep h rfl hs hx)
          obtain ⟨pa', cap', vs', he', hcap', hes', hr', hone', hadr'⟩ := rep_slice_inv (opv_rep h rfl hs hy)
          obtain ⟨h1, g, hg1, hg2, hg3⟩ := own_of h hs hx c5
          have hvl := len_flat hes hr
          have hvl' := len_flat hes' hr'
          rw [c4, Nat.one_mul] at hvl'
          have hess : ∀ e ∈ es ++ [v], e.cells.length = sz := fun z hz => by
            rcases List.mem_append.1 hz with hz | hz
            · exact hes z hz
            · simp at hz; subst hz; exact d2'
          rw [Option.map_eq_some_iff] at c8
          obtain ⟨zc, hzc, hzl⟩ := c8
          obtain ⟨i, z, hinf, hz, hzt⟩ := zeroC_info hzc
          have hzs : z.cells.size = sz := by
            have := (tcells_rep (w := st.w) (ext := st.ext) (ι := st.ι) _ _ _ _ hzt).1.length
            rw [hzl] at this; simpa using this.symm
          have hisz : i.size = sz := by rw [c1]; simp [Program.cellsOf, hinf]
          have hib : i.bytes ≤ 1024 := by simpa [hinf] using c6
          have run : ∀ u w', (Builtin.append_ #[tx, tx] A.type #[a.eval x, a.eval y]).run G.P st.w = .ok u w' → (execOp a.eval A).run G.P st.w = .ok (.value u) w' := by
            intro u w' hr
            simp [execOp, hA, resolve, invoke, builtin, hr]
          have hne' : vs' ≠ [] := by intro hv0; rw [hv0] at hvl'; simp at hvl'; omega
          obtain ⟨b', off', rfl, hcell'⟩ := hadr'.resolve_left hne'
          have hnews : ∀ j u, vs'[j]? = some u → st.w.cell? ((⟨b', off', none⟩ : Addr).add j) = some u := fun j u hu => by rw [addr_add]; exact (hcell' j u hu).1
          have hl' : vs'.length = 1 * i.size := by rw [hisz, Nat.one_mul]; exact hvl'
          rw [c4] at he'
          -- the frame behind it, once the row stands
          have fin : ∀ (w1 : World) (b C : Nat) (cur : Array Value) (e0 : TypeId) (ext' : Nat → Nat), (Builtin.append_ #[tx, tx] A.type #[a.eval x, a.eval y]).run G.P st.w = .ok (.slice (some ⟨b, 0, none⟩) (es.length + 1) C) w1 →
              w1.heap[b]? = some (.cells cur e0 (0, 0)) → es.length * sz + sz ≤ cur.size → es.length + 1 ≤ C → C * sz ≤ cur.size → cur.toList.take (es.length * sz) = ovs → ext' b = (es.length + 1) * sz →
              Grow st.w st.ext st.ι (w1.setRow b (cur.toList.take (es.length * sz) ++ (a.eval vs).cells.toList ++ cur.toList.drop (es.length * sz + sz)).toArray) ext' st.ι →
              OK G E.an B0 { st with w := w1.setRow b (cur.toList.take (es.length * sz) ++ (a.eval vs).cells.toList ++ cur.toList.drop (es.length * sz + sz)).toArray, ext := ext' } (apply (clr ρ x) ρ) σ a.tmps →
              Step B0 st { st with w := w1.setRow b (cur.toList.take (es.length * sz) ++ (a.eval vs).cells.toList ++ cur.toList.drop (es.length * sz + sz)).toArray, ext := ext' } →
              (¬ B0 b ∧ b < w1.heap.size ∧ ¬ st.S b) → (∀ p, ¬ Has st.L (apply (clr ρ x) ρ) p b) →
              PenEnd G E B0 st a A σ (apply ups ρ) d2 q1 es.length sz (a.eval vs).cells.toList := by
            intro w1 b C cur e0 ext' hrun hheap hsz hC1 hC2 htake hext hgrow hok hst hb hnb
            obtain ⟨row, hrow⟩ : ∃ row, row = (cur.toList.take (es.length * sz) ++ (a.eval vs).cells.toList ++ cur.toList.drop (es.length * sz + sz)).toArray := ⟨_, rfl⟩
            rw [← hrow] at hgrow hok hst
            unfold PenEnd
            have hheap2 : (w1.setRow b row).heap[b]? = some (.cells row e0 (0, 0)) := setRow_cells hheap
            have hrowl : row.toList.take ((es.length + 1) * sz) = ovs ++ (a.eval vs).cells.toList := by
              rw [hrow]
              simp only
              rw [htake]
              have : (ovs ++ (a.eval vs).cells.toList).length = (es.length + 1) * sz := by rw [List.length_append, hvl, o3, Nat.add_mul, Nat.one_mul]
              rw [← this, List.take_append_of_le_length (Nat.le_refl _)]
              exact List.take_of_length_le (Nat.le_refl _)
            have hrowsz : row.size = cur.size := by
              rw [hrow]
              simp only [List.size_toArray, List.length_append, List.length_take, List.length_drop, Array.length_toList, o3]
              omega
            have hrep : Rep (w1.setRow b row) ext' st.ι (.slice sz (es ++ [v])) (.slice (some ⟨b, 0, none⟩) (es.length + 1) C) := by
              refine rep_slice_mk (us := ovs ++ (a.eval vs).cells.toList) (by simp) hC1 hess ?_ (fun y hy => (List.mem_append.1 hy).elim (h1c y) (o1 y)) hheap2 hrowl (Nat.le_of_eq hext.symm)
              rw [flatMap_append_cells]
              simp only [List.flatMap_cons, List.flatMap_nil, List.append_nil]
              exact (hr.mono hgrow).append (o2.mono hgrow)
            have hput := hok.put (d := d2) (v := .slice sz (es ++ [v])) (ow := [0]) (c := .slice (some ⟨b, 0, none⟩) (es.length + 1) C) a7 b1 (fun _ => some b) hrep
              (fun i hi aa xx ha hx' => by
                simp at hi; subst hi
                simp [AV.cells] at ha; subst ha
                simp [Value.cells] at hx'; subst hx'
                exact ⟨_, C, sz, _, row, e0, rfl, rfl, hext, hheap2, by rw [hrowsz]; exact hC2⟩)
              (fun i _ c hc => by cases hc; exact ⟨hb.1, by simpa using hb.2.1, hb.2.2⟩) (fun i _ c hc p _ => by cases hc; exact hnb p) (fun i hi j hj c _ _ => (List.mem_singleton.1 hi).trans (List.mem_singleton.1 hj).symm)
            have hput2 := hput.put (d := q1) (v := .any) (ow := []) (c := .pointer (some ⟨b, es.length * sz, none⟩)) a8 b2 (fun _ => none) (.any _) (fun _ hi => by cases hi) (fun _ hi => by cases hi) (fun _ hi => by cases hi) (fun _ hi => by cases hi)
            have hups : apply ups ρ = upd (upd (apply (clr ρ x) ρ) d2 (.val (.slice sz (es ++ [v])) [0])) q1 (.val .any []) := by rw [← hc, apply_append]; rfl
            refine ⟨w1, b, C, cur, e0, { st with w := w1.setRow b row, ext := ext', L := (st.L.setγ d2 fun _ => some b).setγ q1 fun _ => none }, run _ _ hrun, hheap, hsz, by rw [← hrow], ?_, by rw [hups]; exact hput2, hst.grow, hst.size, hst.blk, hst.os, hst.tape, hst.output⟩
            rw [hups]
            refine ⟨?_, ?_⟩
            · rw [upd_other _ _ _ a4, upd_same]; simp [Slot.ows]
            · simp [Lay.setγ, a4]
          have key : PenEnd G E B0 st a A σ (apply ups ρ) d2 q1 es.length sz (a.eval vs).cells.toList := by
            have hnb : (es.length + 1) * i.bytes ≤ 140737488355328 := Nat.le_trans (Nat.mul_le_mul e2 hib) (by decide)
            -- a new row
            have grown : cap < es.length + 1 → PenEnd G E B0 st a A σ (apply ups ρ) d2 q1 es.length sz (a.eval vs).cells.toList := fun hgr => by
              have hrun : ∃ C cs, (Builtin.append_ #[tx, tx] A.type #[a.eval x, a.eval y]).run G.P st.w = .ok (.slice (some ⟨st.w.heap.size, 0, none⟩) (es.length + 1) C) (st.w.drew.alloc (.cells cs e)) ∧
                  es.length + 1 ≤ C ∧ C * sz ≤ cs.size ∧ cs.toList.take ((es.length + 1) * sz) = ovs ++ vs' := by
                have hC := grownCap_ge st.w (es.length + 1) cap e
                have hsize : ∀ (front : List Value), front.length = (es.length + 1) * sz → (grownCap st.w (es.length + 1) cap e) * sz ≤ (front.toArray ++ Builtin.zeroCells z.cells (grownCap st.w (es.length + 1) cap e - (es.length + 1))).size := by
                  intro front hfr
                  simp only [Array.size_append, List.size_toArray, size_zeroCells, hzs, hfr, ← Nat.add_mul]
                  exact Nat.mul_le_mul_right _ (by omega)
                by_cases hn0 : ovs = []
                · have hes0 : es = [] := by
                    rw [hn0] at hvl
                    rcases Nat.eq_zero_or_pos es.length with h0 | h0
                    · exact List.eq_nil_of_length_eq_zero h0
                    · have : 0 < es.length * sz := Nat.mul_pos h0 c3
                      simp at hvl; omega
                  subst hes0; subst hn0
                  simp only [List.length_nil, Nat.zero_add] at *
                  cases pa with
                  | none =>
                    have hcap0 : cap = 0 := by
                      cases g with
                      | none => exact hg1 none 0 cap he
                      | some b => obtain ⟨n, c2, s2, e2, v2, t2, _, k2, _⟩ := hg1; rw [he] at k2; cases k2
                    subst hcap0
                    refine ⟨_, _, by rw [he, he']; exact run_append_nil st.w tx A.type e i z hu hinf hz ⟨b', off', none⟩ 1 cap' vs' hl' hnews (by omega) (by omega) (by omega), hC, ?_, ?_⟩
                    · exact hsize vs' (by rw [hvl', Nat.one_mul])
                    · rw [Nat.one_mul, ← hvl']; simp
                  | some pa =>
                    have key := run_append_grow (P := G.P) st.w tx A.type e i z hu hinf hz pa 0 cap [] (by simp) (by simp) ⟨b', off', none⟩ 1 cap' vs' hl' hnews (by omega) (by omega) (by simpa using growslice_fits (by omega) (by simpa using hnb))
                    simp only [Nat.zero_add] at key
                    refine ⟨_, _, by rw [he, he']; exact key, hC, ?_, ?_⟩
                    · have := hsize vs' (by rw [hvl', Nat.one_mul])
                      simpa using this
                    · rw [Nat.one_mul, ← hvl']; simp
                · obtain ⟨b, off, rfl, hcell⟩ := hadr.resolve_left hn0
                  refine ⟨_, _, by rw [he, he']; exact run_append_grow st.w tx A.type e i z hu hinf hz ⟨b, off, none⟩ es.length cap ovs (by rw [hisz]; exact hvl) (fun j v hv => by rw [addr_add]; exact (hcell j v hv).1) ⟨b', off', none⟩ 1 cap' vs' hl' hnews hgr (by omega) (growslice_fits (by omega) hnb), hC, ?_, ?_⟩
                  · have := hsize (ovs ++ vs') (by rw [List.length_append, hvl, hvl', Nat.add_mul, Nat.one_mul])
                    simpa using this
                  · have : (ovs ++ vs').length = (es.length + 1) * sz := by rw [List.length_append, hvl, hvl', Nat.add_mul, Nat.one_mul]
                    rw [← this]
                    simp only [Array.toList_append]
                    rw [List.take_append_of_le_length (by simp)]
                    exact List.take_of_length_le (by simp)
              obtain ⟨C, cs, hrun, hC1, hC2, hC3⟩ := hrun
              have hcell2 : (st.w.drew.alloc (.cells cs e)).heap[st.w.heap.size]? = some (.cells cs e (0, 0)) := heap_alloc_new st.w.drew _
              have hnew0 : Newer st.w (st.w.drew.alloc (.cells cs e)) := (Newer.drew _).trans (Newer.alloc _ _)
              have hnew := hnew0.setRow (k := st.w.heap.size) (Nat.le_refl _) (cs.toList.take (es.length * sz) ++ (a.eval vs).cells.toList ++ cs.toList.drop (es.length * sz + sz)).toArray
              let ext' : Nat → Nat := fun b => if b = st.w.heap.size then (es.length + 1) * sz else st.ext b
              have hext : ∀ b, b < st.w.heap.size → ext' b = st.ext b := fun b hb => by simp only [ext']; rw [if_neg (by omega)]
              have hextn : ext' st.w.heap.size = (es.length + 1) * sz := by simp [ext']
              obtain ⟨hok, hst⟩ := h1.newer hnew hext (fun b hb => by
                have hb' : st.w.heap.size + 1 ≤ b := by simpa [World.setRow] using hb
                simp only [ext']; rw [if_neg (by omega)]; exact h.sr.fresh b (by omega))
              have hcsz : (es.length + 1) * sz ≤ cs.size := Nat.le_trans (Nat.mul_le_mul_right _ hC1) hC2
              refine fin _ st.w.heap.size C cs e ext' hrun hcell2 (by rw [Nat.add_mul, Nat.one_mul] at hcsz; exact hcsz) hC1 hC2 ?_ hextn (hnew.grow h.sr hext) hok hst ⟨h.top, by simp, fun hS => by have := h.sr.small _ hS; omega⟩ (fun p hp => by
                have := (h1.priv p _ hp).2.1
                omega)
              have := congrArg (List.take (es.length * sz)) hC3
              rw [List.take_take, Nat.min_eq_left (Nat.mul_le_mul_right _ (by omega)), ← hvl, List.take_append_of_le_length (Nat.le_refl _), List.take_of_length_le (Nat.le_refl _)] at this
              rw [← hvl]; exact this
            cases g with
            | none =>
              have : cap = es.length := hg1 pa es.length cap he
              exact grown (by omega)
            | some gb =>
              obtain ⟨n2, cap2, sz2, es2, cur, et, k1, k2, k3, k4, k5⟩ := hg1
              cases k1
              rw [he] at k2; cases k2
              by_cases hroom : es.length + 1 ≤ cap
              · -- in its own row
                have hfitr : es.length * i.size + vs'.length ≤ cur.size := by
                  rw [hisz, hvl']
                  have := Nat.le_trans (Nat.mul_le_mul_right sz hroom) k5
                  rw [Nat.add_mul, Nat.one_mul] at this
                  exact this
                have hrun := run_append_own (P := G.P) st.w tx A.type e et i hu hinf gb es.length cap cur k4 ⟨b', off', none⟩ 1 cap' vs' hl' hnews hone' hroom hfitr
                rw [← he, ← he'] at hrun
                obtain ⟨new, hnew⟩ : ∃ new : Array Value, new = (cur.toList.take (es.length * i.size) ++ vs' ++ cur.toList.drop (es.length * i.size + vs'.length)).toArray := ⟨_, rfl⟩
                rw [← hnew] at hrun
                have hnewl : new.toList = cur.toList.take (es.length * sz) ++ vs' ++ cur.toList.drop (es.length * sz + vs'.length) := by rw [hnew, hisz]
                have hheap : (st.w.setRow gb new).heap[gb]? = some (.cells new et (0, 0)) := setRow_heap _ _ _ _ _ _ k4
                have hnsz : new.size = cur.size := by
                  have := congrArg List.length hnewl
                  rw [hisz] at hfitr
                  simp only [List.length_append, List.length_take, List.length_drop, Array.length_toList] at this
                  omega
                let ext' : Nat → Nat := fun b => if b = gb then (es.length + 1) * sz else st.ext b
                have hext : ∀ b, b ≠ gb → ext' b = st.ext b := fun b hb => by simp only [ext']; rw [if_neg hb]
                have hextg : ext' gb = (es.length + 1) * sz := by simp [ext']
                have hvs : ovs = cur.toList.take (es.length * sz) := by
                  by_cases hv0 : ovs = []
                  · rw [hv0] at hvl
                    have : es.length * sz = 0 := by simpa using hvl.symm
                    rw [this, hv0]; rfl
                  · obtain ⟨b, off, hb, hcell⟩ := hadr.resolve_left hv0
                    injection hb with hb; injection hb with hb1' hb2'
                    subst hb1'; subst hb2'
                    apply List.ext_getElem?
                    intro j
                    rcases Nat.lt_or_ge j ovs.length with hj | hj
                    · have := (hcell j ovs[j] (List.getElem?_eq_getElem hj)).1
                      rw [Nat.zero_add, cell_row k4] at this
                      rw [List.getElem?_take_of_lt (by omega), List.getElem?_eq_getElem hj]
                      simpa using this.symm
                    · rw [List.getElem?_eq_none hj, List.getElem?_eq_none (by simp; omega)]
                have htake : new.toList.take (es.length * sz) = ovs := by
                  rw [hnewl, List.append_assoc, ← hvs, ← hvl, List.take_append_of_le_length (Nat.le_refl _)]
                  exact List.take_of_length_le (Nat.le_refl _)
                have hturn : Turn st.w ((st.w.setRow gb new).setRow gb (new.toList.take (es.length * sz) ++ (a.eval vs).cells.toList ++ new.toList.drop (es.length * sz + sz)).toArray) gb := by
                  rw [setRow_setRow]; exact Turn.setRow _ _ _
                have hheap2 := setRow_cells (cs := (new.toList.take (es.length * sz) ++ (a.eval vs).cells.toList ++ new.toList.drop (es.length * sz + sz)).toArray) hheap
                have hgrow : Grow st.w st.ext st.ι ((st.w.setRow gb new).setRow gb (new.toList.take (es.length * sz) ++ (a.eval vs).cells.toList ++ new.toList.drop (es.length * sz + sz)).toArray) ext' st.ι := by
                  refine hturn.grow hext (by rw [hextg, k3]; exact Nat.mul_le_mul_right _ (by omega)) fun oo u ho hv => ?_
                  rw [cell_row hheap2]
                  rw [cell_row k4] at hv
                  rw [k3] at ho
                  have : (new.toList.take (es.length * sz) ++ (a.eval vs).cells.toList ++ new.toList.drop (es.length * sz + sz))[oo]? = some u := by
                    rw [htake, hvs, List.append_assoc, List.getElem?_append_left (by
                      have := congrArg List.length hvs
                      rw [hvl] at this; rw [← this]; exact ho), List.getElem?_take_of_lt ho]
                    simpa using hv
                  simpa using this
                obtain ⟨hok, hst⟩ := h1.turn hgrow hturn hext (hg3 gb rfl) (hg2 gb rfl)
                refine fin _ gb cap new et ext' hrun hheap ?_ hroom (by rw [hnsz]; exact k5) htake hextg hgrow hok hst ⟨(hg2 gb rfl).1, by simpa [World.setRow] using (hg2 gb rfl).2.1, (hg2 gb rfl).2.2⟩ (hg3 gb rfl)
                rw [hnsz]
                have := hfitr
                rw [hisz, hvl'] at this
                exact this
              · exact grown (by omega)
          subst d1'
          refine ⟨tx, ts, x, y, ii, vs, pb, d2, q1, _, es.length, hA, hI, hS, hB, hAd, hId, hSd, hBd, by simpa using g1, by simpa using g2, by simpa using g3, by simpa using g4, a7, a8, a4, b4, b5, b6, ⟨kk, by rw [hii, e1]⟩, o1, by rw [o3], d4', ⟨e, hu, by rw [hinf]; rfl, by rw [← c1]⟩, ⟨es, v, ?_⟩, key⟩
          rw [← hc, apply_append]
          show upd (upd _ d2 _) q1 _ d2 = _
          rw [upd_other _ _ _ a4, upd_same]
        · simp at hc
      · simp at hc
    · simp at hc
  · simp at hc

end Go.AI
