/- The abstract machine: such regions in whatever order. -/
import Derived.Test.YtdpamhejneicdaaGreatDoorZAIP
namespace Go.AI
set_option linter.unusedVariables false
set_option linter.unusedSimpArgs false
open Go

variable {G : Prg} {an : Ann} {E : EE} {B0 : Nat → Prop} {st st0 : St} {ρ ρm ρ' : Env} {σ σ' : Sig} {a : Act} {o : Oper} {tmps : Array Value} {O : Task → Option Res} {ops : Array Oper} {quiet : Bool}

theorem set_listed {listed : Array Bool} {i k : Nat} (h : i < listed.size) : Listed (listed.setIfInBounds i true) k ↔ k = i ∨ Listed listed k := by
  unfold Listed
  by_cases hki : k = i
  · subst hki
    simp [Array.getD_eq_getD_getElem?, Array.getElem?_setIfInBounds_self_of_lt h]
  · rw [Array.getD_eq_getD_getElem?, Array.getD_eq_getD_getElem?, Array.getElem?_setIfInBounds_ne (Ne.symm hki)]
    simp [hki]

theorem unlisted {listed : Array Bool} {j : Nat} (hj : j < listed.size) : listed.getD j true = false ↔ ¬ Listed listed j := by
  unfold Listed
  rw [Array.getD_eq_getD_getElem?, Array.getD_eq_getD_getElem?, Array.getElem?_eq_getElem hj]
  simp

structure PenChk (G : Prg) (an : Ann) (quiet : Bool) (ops : Array Oper) (m : Nat) : Prop where
  size : m + 4 = ops.size
  edge : ∀ j o, ops[j]? = some o → ∀ e ∈ o.after.toList, Region.binds .any e = true → e.on < j
  pair : ∀ j o, j < m → ops[j]? = some o → ∀ i, i < j → ∀ p, ops[i]? = some p → bef ops 8 i j = true ∨ indep G an quiet ops p o = true
  front : ∀ i, i < m → bef ops 8 i m = true
  b1 : bef ops 8 m (m + 1) = true
  b2 : bef ops 8 m (m + 3) = true
  b3 : bef ops 8 (m + 1) (m + 2) = true

theorem penOK_chk (h : penOK G an quiet ops = true) : PenChk G an quiet ops (ops.size - 4) := by
  unfold penOK at h
  simp only [Bool.and_eq_true, decide_eq_true_eq, List.all_eq_true, List.mem_range] at h
  obtain ⟨⟨⟨⟨⟨h1, h2⟩, h3⟩, h4⟩, h5⟩, h6⟩ := h
  have hchk := fun j o (ho : ops[j]? = some o) => h2 j (Array.getElem?_eq_some_iff.1 ho).1
  refine ⟨by omega, fun j o ho e he hb => ?_, fun j o hj ho i hi p hp => ?_, h3, h4, h5, h6⟩
  · have := hchk j o ho
    rw [ho] at this
    simp only [Bool.and_eq_true, List.all_eq_true, Bool.or_eq_true, Bool.not_eq_true', decide_eq_true_eq] at this
    rcases this.1 e he with h | h
    · rw [hb] at h; cases h
    · exact h
  · have := hchk j o ho
    rw [ho] at this
    simp only [Bool.and_eq_true, Bool.or_eq_true, decide_eq_true_eq, List.all_eq_true, List.mem_range] at this
    rcases this.2 with h | h
    · omega
    · have := h i hi
      rw [hp] at this
      simpa using this

/-- The front, in whatever order. -/
theorem front_sound (hP : PrgOK G) {k : Nat} (hO : OrSound G k O) (r : Option Nat) (n : Nat) {Q : Exit → Act → World → Prop} {ds : List Deferred} {m : Nat} (hreg : PenChk G E.an quiet ops m)
    (hT : ∀ (listed : Array Bool) (a : Act) (st : St), listed.size = ops.size → (∀ j, j < ops.size → (Listed listed j ↔ j < m)) → OK G E.an B0 st ρ' σ' a.tmps → Step B0 st0 st → a.defers = ds → wpAnyIn (fen r) n G.P .any ops Q 4 listed a st.w) :
    ∀ (fuel : Nat) (R : List Nat) (listed : Array Bool) (ρ : Env) (σ : Sig) (st : St) (a : Act), R.length = fuel → R.Pairwise (· < ·) → listed.size = ops.size → (∀ i, i ∈ R ↔ i < m ∧ ¬ Listed listed i) → (∀ j, m ≤ j → ¬ Listed listed j) →
      (∀ j, Listed listed j → ∀ o, ops[j]? = some o → ∀ e ∈ o.after.toList, Region.binds .any e = true → Listed listed e.on) →
      aopsI G E O ops quiet R ρ σ = some (ρ', σ') → OK G E.an B0 st ρ σ a.tmps → Step B0 st0 st → a.defers = ds → wpAnyIn (fen r) n G.P .any ops Q (fuel + 4) listed a st.w := by
  have hsize := hreg.size
  intro fuel
  induction fuel with
  | zero =>
    intro R listed ρ σ st a hlen hp hs hR hm hd h hok hst hds
    have hRn : R = [] := List.eq_nil_of_length_eq_zero hlen
    subst hRn
    simp only [aopsI, Option.some.injEq, Prod.mk.injEq] at h
    obtain ⟨rfl, rfl⟩ := h
    refine hT listed a st hs (fun j hj => ⟨fun hl => ?_, fun hj' => ?_⟩) hok hst hds
    · rcases Nat.lt_or_ge j m with h' | h'
      · exact h'
      · exact absurd hl (hm j h')
    · refine Classical.byContradiction fun hl => ?_
      have := (hR j).2 ⟨hj', hl⟩
      cases this
  | succ fuel ih =>
    intro R listed ρ σ st a hlen hp hs hR hm hd h hok hst hds
    refine ⟨fun hnil => ?_, fun i hi => ?_⟩
    · exfalso
      cases R with
      | nil => simp at hlen
      | cons i R =>
        obtain ⟨k1, k2⟩ := (hR i).1 (by simp)
        have hisz : i < ops.size := by omega
        have hoi : ops[i]? = some ops[i] := Array.getElem?_eq_getElem hisz
        have : i ∈ Region.ready .any ops listed := by
          refine mem_ready.2 ⟨(unlisted (by omega)).2 k2, ops[i], hoi, fun e he hb => ?_⟩
          have hlt := hreg.edge i _ hoi e (by simpa using he) hb
          refine Classical.byContradiction fun hq => ?_
          have := (hR e.on).2 ⟨by omega, hq⟩
          rcases List.mem_cons.1 this with h' | h'
          · omega
          · have := (List.pairwise_cons.1 hp).1 _ h'
            omega
        rw [hnil] at this
        cases this
    · obtain ⟨k1, o, ho, k3⟩ := mem_ready.1 hi
      have hisz := (Array.getElem?_eq_some_iff.1 ho).1
      have k1 := (unlisted (by omega)).1 k1
      have hal : ∀ e ∈ o.after.toList, Region.binds .any e = true → Listed listed e.on := fun e he hb => k3 e (by simpa using he) hb
      -- it is one of the front
      have him : i < m := by
        rcases Nat.lt_or_ge i m with h' | h'
        · exact h'
        · exfalso
          cases R with
          | nil => simp at hlen
          | cons p R =>
            obtain ⟨q1, q2⟩ := (hR p).1 (by simp)
            -- the append waits for all of the front, the others wait for it
            have hmi : i = m ∨ Listed listed m := by
              have hcase : i = m ∨ i = m + 1 ∨ i = m + 2 ∨ i = m + 3 := by omega
              rcases hcase with rfl | rfl | rfl | rfl
              · exact .inl rfl
              · exact .inr (bef_listed hd 8 _ o ho hal hreg.b1)
              · have := bef_listed hd 8 _ o ho hal hreg.b3
                exact absurd this (hm _ (by omega))
              · exact .inr (bef_listed hd 8 _ o ho hal hreg.b2)
            rcases hmi with rfl | hmi
            · exact q2 (bef_listed hd 8 _ o ho hal (hreg.front p q1))
            · exact hm m (Nat.le_refl _) hmi
      have hiR := (hR i).2 ⟨him, k1⟩
      have hfront := move_front (i := i) R ρ σ _ hp hiR (fun p hpR hpi op oi hop hoi => by
        rw [ho] at hoi; cases hoi
        rcases hreg.pair i o him ho p hpi op hop with hb | hb
        · have hl := bef_listed hd 8 i o ho hal hb
          exact absurd hl ((hR p).1 hpR).2
        · exact hb) h
      obtain ⟨ρ1, σ1, h1, h2⟩ := aopsI_cons hfront ho
      have hnd : R.Nodup := hp.imp fun h => Nat.ne_of_lt h
      refine op_sound hP hO r n ho hok h1 fun a' st' hok' hst' hd' => ?_
      have hls : i < listed.size := by omega
      refine ih (R.erase i) (listed.setIfInBounds i true) ρ1 σ1 st' a' (by rw [List.length_erase_of_mem hiR]; omega) (hp.sublist List.erase_sublist) (by simpa using hs) (fun j => ?_) (fun j hj => ?_) (fun j hj oj hoj e he hb => ?_) h2 hok' (hst.trans hst') (hd'.trans hds)
      · rw [hnd.mem_erase_iff, hR j, set_listed hls]
        constructor
        · rintro ⟨q1, q2, q3⟩
          exact ⟨q2, fun hq => hq.elim q1 q3⟩
        · rintro ⟨q1, q2⟩
          exact ⟨fun hq => q2 (.inl hq), q1, fun hq => q2 (.inr hq)⟩
      · rw [set_listed hls]
        rintro (hq | hq)
        · omega
        · exact hm j hj hq
      · rw [set_listed hls] at hj ⊢
        rcases hj with rfl | hj
        · rw [ho] at hoj; cases hoj
          exact .inr (hal e he hb)
        · exact .inr (hd j hj oj hoj e he hb)

/-! ### The last four -/

def ClosedL (ops : Array Oper) (listed : Array Bool) : Prop := ∀ j, Listed listed j → ∀ o, ops[j]? = some o → ∀ e ∈ o.after.toList, Region.binds .any e = true → Listed listed e.on

theorem any_step {r : Option Nat} {n f : Nat} {Q : Exit → Act → World → Prop} {listed : Array Bool} {w : World} (hs : listed.size = ops.size) (hcl : ClosedL ops listed)
    (hedge : ∀ j o, ops[j]? = some o → ∀ e ∈ o.after.toList, Region.binds .any e = true → e.on < j) (hex : ∃ j, j < ops.size ∧ ¬ Listed listed j)
    (h : ∀ i, i < ops.size → ¬ Listed listed i → (∀ p, bef ops 8 p i = true → Listed listed p) → ClosedL ops (listed.setIfInBounds i true) → wpOpIn (fen r) n G.P ops Q i (wpAnyIn (fen r) n G.P .any ops Q f (listed.setIfInBounds i true)) a w) :
    wpAnyIn (fen r) n G.P .any ops Q (f + 1) listed a w := by
  refine ⟨fun hnil => ?_, fun i hi => ?_⟩
  · exfalso
    have hmin : ∀ j, j < ops.size → ¬ Listed listed j → ∃ j, j < ops.size ∧ ¬ Listed listed j ∧ ∀ i, i < j → Listed listed i := by
      intro j
      induction j using Nat.strongRecOn with
      | _ j ih =>
        intro hj hl
        by_cases hk : ∃ i, i < j ∧ ¬ Listed listed i
        · obtain ⟨i, h1, h2⟩ := hk
          exact ih i h1 (by omega) h2
        · exact ⟨j, hj, hl, fun i hi => Classical.byContradiction fun hc => hk ⟨i, hi, hc⟩⟩
    obtain ⟨j0, k1, k2⟩ := hex
    obtain ⟨j, k1, k2, k3⟩ := hmin j0 k1 k2
    have : j ∈ Region.ready .any ops listed := mem_ready.2 ⟨(unlisted (by omega)).2 k2, ops[j], Array.getElem?_eq_getElem k1, fun e he hb => k3 _ (hedge j _ (Array.getElem?_eq_getElem k1) e (by simpa using he) hb)⟩
    rw [hnil] at this
    cases this
  · obtain ⟨k1, o, ho, k3⟩ := mem_ready.1 hi
    have hisz := (Array.getElem?_eq_some_iff.1 ho).1
    have hal : ∀ e ∈ o.after.toList, Region.binds .any e = true → Listed listed e.on := fun e he hb => k3 e (by simpa using he) hb
    refine h i hisz ((unlisted (by omega)).1 k1) (fun p hp => bef_listed hcl 8 i o ho hal hp) fun j hj oj hoj e he hb => ?_
    rw [set_listed (by omega)] at hj ⊢
    rcases hj with rfl | hj
    · rw [ho] at hoj; cases hoj
      exact .inr (hal e he hb)
    · exact .inr (hcl j hj oj hoj e he hb)

theorem any_done {r : Option Nat} {n : Nat} {Q : Exit → Act → World → Prop} {listed : Array Bool} {w : World} (hs : listed.size = ops.size) (h : ∀ j, j < ops.size → Listed listed j) (hQ : Q .normal a w) :
    wpAnyIn (fen r) n G.P .any ops Q 0 listed a w := by
  refine ⟨?_, hQ⟩
  cases hr : Region.ready .any ops listed with
  | nil => rfl
  | cons x xs =>
    have hx : x ∈ Region.ready .any ops listed := by rw [hr]; simp
    obtain ⟨k1, o, ho, _⟩ := mem_ready.1 hx
    have hlt := (Array.getElem?_eq_some_iff.1 ho).1
    exact absurd (h x hlt) ((unlisted (by omega)).1 k1)

theorem index_run {I : Oper} {tx e : TypeId} {d b n C : Nat} {k : IntKind} {ii : Operand} {w : World} (hI : I.op = .indexAddr tx (.tmp d) ii) (hu : G.P.underlying tx = some (.slice e)) (hi : (G.P.info? e).isSome = true)
    (he : a.eval (.tmp d) = .slice (some ⟨b, 0, none⟩) (n + 1) C) (hii : a.eval ii = .int k n) : (execOp a.eval I).run G.P w = .ok (.value (.pointer (some ⟨b, n * G.P.cellsOf e, none⟩))) w := by
  have hl : (n : Int) < ((n + 1 : Nat) : Int) := by omega
  have h0 : (0 : Int) ≤ (n : Int) := by omega
  simp [execOp, hI, he, hii, Instr.indexAt, asIntOf, run_underlying hu, h0, hl, sizeOf_run _ hi, addr_add]

/-- A store of a frame, and where it goes. -/
theorem store_goal {B : Oper} {tb : TypeId} {pb x : Operand} (hB : B.op = .store tb pb x) (hg : B.guard = none) (h : OK G E.an B0 st ρ σ a.tmps) (haop : aop G E O ops quiet B ρ σ = some (ρ', σ')) :
    OpGoal G E.an B0 st a B ρ' σ' ∧ (∀ y ∈ (a.eval x).cells.toList, y.oneCell' = true) ∧ (a.eval x).cells.toList.length = G.P.cellsOf tb ∧ (G.P.info? tb).isSome = true ∧
      ∃ bx off vs e, a.eval pb = .pointer (some ⟨bx, off, none⟩) ∧ st.w.heap[bx]? = some (.cells vs e (0, 0)) ∧ off + G.P.cellsOf tb ≤ vs.size ∧ (∀ t i c, Has st.L ρ (.own t i) c → c ≠ bx) := by
  obtain ⟨ups, s, hstep, hfit, rfl, rfl⟩ := aop_spec haop
  have hs := mask_sub (rdOf E.an ops B) ρ
  have hm : ∀ t ∈ rdOf E.an ops B, mask (rdOf E.an ops B) ρ t = ρ t := fun t ht => by simp [mask, ht]
  have hf : Fit E.an ups := fun u hu => (hfit u hu).2
  have hw : want (mask (rdOf E.an ops B) ρ) ops B = some true := by simp [want, hg]
  have hcall : isCall B = false := by simp [isCall, hB]
  have harr : arrOp G E B (mask (rdOf E.an ops B) ρ) = none := by simp [arrOp, hB]
  simp only [stepOp, hw, hcall, harr, Bool.false_eq_true, if_false] at hstep
  have hc := core_mode (quiet := quiet) hcall hstep
  refine ⟨sound_core (ops := ops) hcall h hs hm hc hf, ?_⟩
  simp only [core, hB, Option.bind_eq_bind, Option.bind_eq_some_iff] at hc
  obtain ⟨v, hv, hc⟩ := hc
  split at hc
  · simp at hc
  · rename_i hcond
    simp only [not_or, Decidable.not_not] at hcond
    obtain ⟨c1, c2, c3⟩ := hcond
    have c2 : v.okc = true := eq_true_of_ne_false c2
    have c3 : (G.P.info? tb).isSome = true := eq_true_of_ne_false c3
    rw [Option.bind_eq_some_iff] at hc
    obtain ⟨q, hq, hc⟩ := hc
    obtain ⟨o1, o2⟩ := (opv_rep h rfl hs hv).one c2
    refine ⟨o1, by rw [← o2.length, c1], c3, ?_⟩
    cases q with
    | im cs => simp at hc
    | loc s off =>
      obtain ⟨he, hl0⟩ := ptrOf_loc h rfl hs hq
      dsimp only at hc
      split at hc
      · rename_i cs ow hρ
        have hρ' := hs.val hρ (by simp)
        split at hc
        · rename_i hle
          have hsl := h.slot s
          rw [hρ'] at hsl
          obtain ⟨k1, k2, vs, e, k3, k4, k5, k6⟩ := hsl
          refine ⟨_, off, vs, e, he, k3, ?_, fun t i c hh hcb => ?_⟩
          · have := k4.length
            simp at this; omega
          · subst hcb
            have := h.inj _ _ _ hh (show Has st.L ρ (.box s) (st.L.β s) from ⟨by rw [hρ']; rfl, rfl⟩)
            cases this
        · simp at hc
      · simp at hc
    | sh id off =>
      dsimp only at hc
      split at hc
      · rename_i cs ow hσ
        split at hc
        · rename_i hle
          obtain ⟨bx, hb, he⟩ := rep_ptr_inv (ptrOf_sh h rfl hs hq)
          obtain ⟨k2, vs, e, k3, k4, k5, k6⟩ := h.sr.obj id _ bx hσ hb
          refine ⟨bx, off, vs, e, he, k3, ?_, fun t i c hh hcb => ?_⟩
          · have := k4.length
            simp at this; omega
          · subst hcb
            exact (h.priv _ _ hh).2.2 (h.sr.inS _ (List.mem_of_getElem? hb))
        · simp at hc
      · simp at hc

theorem pen_sound (hP : PrgOK G) {k : Nat} (hO : OrSound G k O) (r : Option Nat) (n : Nat) {Q : Exit → Act → World → Prop} {ds : List Deferred} {front : List Oper} {A I S B : Oper} {ups : List (Nat × Slot)} {ρ1 : Env} {σ1 : Sig}
    (hreg : penOK G E.an quiet ops = true) (hp : penParts ops = some (front, A, I, S, B)) (h1 : aops G E O ops quiet front ρ σ = some (ρ1, σ1)) (h2 : penUps G E A I S B ρ1 = some ups)
    (h3 : aop G E O ops quiet B (apply ups ρ1) σ1 = some (ρ', σ')) (hok : OK G E.an B0 st ρ σ a.tmps) (hst : Step B0 st0 st) (hds : a.defers = ds)
    (hQ : ∀ a' st', OK G E.an B0 st' ρ' σ' a'.tmps → Step B0 st0 st' → a'.defers = ds → Q .normal a' st'.w) :
    wpAnyIn (fen r) n G.P .any ops Q ops.size (Array.replicate ops.size false) a st.w := by
  have hchk := penOK_chk hreg
  obtain ⟨m, hm⟩ : ∃ m, m = ops.size - 4 := ⟨_, rfl⟩
  rw [← hm] at hchk
  have hsz := hchk.size
  -- the four
  unfold penParts at hp
  rw [← hm] at hp
  split at hp
  · rename_i A' I' S' B' hdrop
    simp only [Option.some.injEq, Prod.mk.injEq] at hp
    obtain ⟨rfl, rfl, rfl, rfl, rfl⟩ := hp
    have hget : ∀ i o, (ops.toList.drop m)[i]? = some o → ops[m + i]? = some o := by
      intro i o h
      rw [List.getElem?_drop] at h
      simpa using h
    have hoA : ops[m]? = some A' := hget 0 A' (by rw [hdrop]; rfl)
    have hoI : ops[m + 1]? = some I' := hget 1 I' (by rw [hdrop]; rfl)
    have hoS : ops[m + 2]? = some S' := hget 2 S' (by rw [hdrop]; rfl)
    have hoB : ops[m + 3]? = some B' := hget 3 B' (by rw [hdrop]; rfl)
    -- the front, by index
    have hfr : aopsI G E O ops quiet (List.range m) ρ σ = some (ρ1, σ1) := by
      rw [← h1]
      have key : ∀ (l : List Oper) (i : Nat) (ρ : Env) (σ : Sig), (∀ j o, l[j]? = some o → ops[i + j]? = some o) → aopsI G E O ops quiet (List.range' i l.length) ρ σ = aops G E O ops quiet l ρ σ := by
        intro l
        induction l with
        | nil => intro i ρ σ _; rfl
        | cons o l ih =>
          intro i ρ σ hl
          have ho : ops[i]? = some o := by simpa using hl 0 o rfl
          simp only [List.length_cons, List.range'_succ, aopsI, ho, aops]
          cases aop G E O ops quiet o ρ σ with
          | none => rfl
          | some x => exact ih (i + 1) x.1 x.2 fun j o' hj => by rw [Nat.add_assoc, Nat.add_comm 1 j]; exact hl (j + 1) o' hj
      have := key (ops.toList.take m) 0 ρ σ fun j o hj => by
        rcases Nat.lt_or_ge j m with hj' | hj'
        · rw [List.getElem?_take_of_lt hj'] at hj
          simpa using hj
        · rw [List.getElem?_eq_none (by simp; omega)] at hj; cases hj
      rw [List.length_take, Nat.min_eq_left (by simp; omega)] at this
      rw [List.range_eq_range']; exact this
    have hnoL : ∀ j, ¬ Listed (Array.replicate ops.size false) j := by
      intro j hj
      unfold Listed at hj
      rw [Array.getD_eq_getD_getElem?, Array.getElem?_replicate] at hj
      split at hj <;> simp at hj
    have hfin := front_sound (Q := Q) (ds := ds) (B0 := B0) (st0 := st0) hP hO r n hchk (fun listed a st hs hl hok hst hds => ?_) m (List.range m) (Array.replicate ops.size false) ρ σ st a (by simp) List.pairwise_lt_range (by simp) (fun i => by
      rw [List.mem_range]; exact ⟨fun h => ⟨h, hnoL i⟩, fun h => h.1⟩) (fun j _ => hnoL j) (fun j hj => absurd hj (hnoL j)) hfr hok hst hds
    · rw [hsz] at hfin; exact hfin
    -- the last four
    obtain ⟨tx, ts, x, y, ii, vs, pb, d, q, tb, nn, hA, hI, hS, hB, hAd, hId, hSd, hBd, hAg, hIg, hSg, hBg, hdn, hqn, hdq, ai, av, ap, ⟨kk, hii⟩, v1, v2, v3, ⟨e, hu, hei, hce⟩, ⟨es, v, hρd⟩, w1, b, C, cur, e0, st2, r1, r2, r3, r4, r5, r6, r7⟩ := pen_three hok h2
    obtain ⟨sz, hszd⟩ : ∃ sz, sz = G.P.cellsOf ts := ⟨_, rfl⟩
    rw [← hszd] at r3 r4 r6
    have hts : a.tmps.size = E.an.ntmps := hok.size
    obtain ⟨aA, haA⟩ : ∃ aA, aA = a.put (some d) (.slice (some ⟨b, 0, none⟩) (nn + 1) C) := ⟨_, rfl⟩
    obtain ⟨aI, haI⟩ : ∃ aI, aI = aA.put (some q) (.pointer (some ⟨b, nn * sz, none⟩)) := ⟨_, rfl⟩
    have eAd : aA.eval (.tmp d) = .slice (some ⟨b, 0, none⟩) (nn + 1) C := by rw [haA]; exact eval_put_same (by omega)
    have eAi : aA.eval ii = .int kk nn := by rw [haA, (eval_put_apart ai).1]; exact hii
    have eAp : aI.eval pb = a.eval pb := by rw [haI, (eval_put_apart ap).2, haA, (eval_put_apart ap).1]
    have eAp' : aA.eval pb = a.eval pb := by rw [haA, (eval_put_apart ap).1]
    have eIv : aI.eval vs = a.eval vs := by rw [haI, (eval_put_apart av).2, haA, (eval_put_apart av).1]
    have eId : aI.eval (.tmp d) = .slice (some ⟨b, 0, none⟩) (nn + 1) C := by rw [haI, eval_put_other hdq]; exact eAd
    have eIq : aI.eval (.tmp q) = .pointer (some ⟨b, nn * sz, none⟩) := by
      rw [haI]; exact eval_put_same (by rw [haA]; simp [Act.put]; omega)
    have htm : aI.tmps = (a.tmps.setIfInBounds d (.slice (some ⟨b, 0, none⟩) (nn + 1) C)).setIfInBounds q (.pointer (some ⟨b, nn * sz, none⟩)) := by rw [haI, put_tmps, haA, put_tmps]
    rw [← htm] at r6
    -- the last store
    obtain ⟨⟨vB, st3, hrunB, hok3, hst3⟩, x1, x2, x3, bx, off, vsB, eB, p1, p2, p3, p4⟩ := store_goal (B := B') (a := aI) hB hBg r6 h3
    have hbx : b ≠ bx := p4 d 0 b r5
    obtain ⟨row, hrow⟩ : ∃ row, row = (cur.toList.take (nn * sz) ++ (a.eval vs).cells.toList ++ cur.toList.drop (nn * sz + (a.eval vs).cells.toList.length)).toArray := ⟨_, rfl⟩
    have r4' : st2.w = w1.setRow b row := by rw [r4, hrow, v2, ← hszd]
    have p2' : w1.heap[bx]? = some (.cells vsB eB (0, 0)) := by
      rw [r4', setRow_other _ _ _ _ (Ne.symm hbx)] at p2; exact p2
    obtain ⟨rowB, hrowB⟩ : ∃ rowB, rowB = (vsB.toList.take off ++ (aI.eval (.tmp d)).cells.toList ++ vsB.toList.drop (off + (aI.eval (.tmp d)).cells.toList.length)).toArray := ⟨_, rfl⟩
    have runB : ∀ (x : Act) (w : World), x.eval pb = a.eval pb → x.eval (.tmp d) = aI.eval (.tmp d) → w.heap[bx]? = some (.cells vsB eB (0, 0)) → (execOp x.eval B').run G.P w = .ok .skip (w.setRow bx rowB) := by
      intro x w h1 h2 h3
      have := store_run (a := x) (w := w) hB (by rw [h1, ← eAp]; exact p1) h3 (by rw [h2]; exact x1) (by rw [h2]; exact x2) x3 p3
      rw [h2, ← hrowB] at this
      exact this
    have runS : ∀ (x : Act) (w : World), x.eval (.tmp q) = .pointer (some ⟨b, nn * sz, none⟩) → x.eval vs = a.eval vs → w.heap[b]? = some (.cells cur e0 (0, 0)) → (execOp x.eval S').run G.P w = .ok .skip (w.setRow b row) := by
      intro x w h1 h2 h3
      have := store_run (a := x) (w := w) hS h1 h3 (by rw [h2]; exact v1) (by rw [h2]; exact v2) v3 (by rw [← hszd]; exact r3)
      rw [h2, ← hrow] at this
      exact this
    have hce' : G.P.cellsOf e = sz := by rw [hce, hszd]
    have runI : ∀ (w : World), (execOp aA.eval I').run G.P w = .ok (.value (.pointer (some ⟨b, nn * sz, none⟩))) w := by
      intro w
      have := index_run (w := w) hI hu hei eAd eAi
      rw [hce'] at this; exact this
    -- what comes of it
    have hst3w : st3.w = (w1.setRow b row).setRow bx rowB ∧ vB = undef := by
      have hr := runB aI st2.w eAp rfl p2
      rcases hrunB with hr' | ⟨hr', hv⟩
      · rw [hr] at hr'; cases hr'
      · rw [hr] at hr'
        injection hr' with _ hw
        exact ⟨by rw [← hw, r4'], hv⟩
    have hfinal : Q .normal aI ((w1.setRow b row).setRow bx rowB) := by
      have := hQ aI st3 (by rw [hBd] at hok3; exact hok3) ((hst.trans r7).trans hst3) (by rw [haI, put_defers, haA, put_defers]; exact hds)
      rw [hst3w.1] at this; exact this
    have putn : ∀ (x : Act), x.put none undef = x := fun x => rfl
    have nd : ∀ {o : Oper}, (∃ t p x, o.op = .store t p x) → ∀ c, o.op ≠ .defer c := by
      rintro o ⟨t, p, x, h⟩ c hc; rw [h] at hc; cases hc
    have hclose : ClosedL ops listed := by
      intro j hj o ho e he hb
      have hjs := (Array.getElem?_eq_some_iff.1 ho).1
      have h1 := (hl j hjs).1 hj
      have h2 := hchk.edge j o ho e he hb
      exact (hl e.on (by omega)).2 (by omega)
    have L := @set_listed
    refine any_step (f := 3) hs hclose hchk.edge ⟨m, by omega, fun h => by have := (hl m (by omega)).1 h; omega⟩ fun i hi hni hbi hcl1 => ?_
    have him : i = m := by
      have h0 : ¬ i < m := fun h => hni ((hl i hi).2 h)
      have hcase : i = m ∨ i = m + 1 ∨ i = m + 2 ∨ i = m + 3 := by omega
      rcases hcase with h | h | h | h
      · exact h
      · subst h; have := (hl m (by omega)).1 (hbi m hchk.b1); omega
      · subst h; have := (hl (m + 1) (by omega)).1 (hbi (m + 1) hchk.b3); omega
      · subst h; have := (hl m (by omega)).1 (hbi m hchk.b2); omega
    subst him
    refine op_value hoA hAg (by intro c hc; rw [hA] at hc; cases hc) r1 ?_
    rw [hAd, ← haA]
    have hs1 : (listed.setIfInBounds i true).size = ops.size := by simpa using hs
    have hl1 : ∀ j, j < ops.size → (Listed (listed.setIfInBounds i true) j ↔ j < i + 1) := by
      intro j hj
      rw [set_listed (by omega), hl j hj]; omega
    refine any_step (f := 2) hs1 hcl1 hchk.edge ⟨i + 1, by omega, fun h => by have := (hl1 (i + 1) (by omega)).1 h; omega⟩ fun j hj hnj hbj hcl2 => ?_
    have hj' : j = i + 1 ∨ j = i + 3 := by
      have h0 : ¬ j < i + 1 := fun h => hnj ((hl1 j hj).2 h)
      have hcase : j = i + 1 ∨ j = i + 2 ∨ j = i + 3 := by omega
      rcases hcase with h | h | h
      · exact .inl h
      · subst h; have := (hl1 (i + 1) (by omega)).1 (hbj (i + 1) hchk.b3); omega
      · exact .inr h
    have hs2 : ((listed.setIfInBounds i true).setIfInBounds j true).size = ops.size := by simpa using hs
    rcases hj' with rfl | rfl
    · -- the address
      refine op_value hoI hIg (by intro c hc; rw [hI] at hc; cases hc) (runI w1) ?_
      rw [hId, ← haI]
      have hl2 : ∀ j, j < ops.size → (Listed ((listed.setIfInBounds i true).setIfInBounds (i + 1) true) j ↔ j < i + 2) := by
        intro j hj
        rw [set_listed (by omega), hl1 j hj]; omega
      refine any_step (f := 1) hs2 hcl2 hchk.edge ⟨i + 2, by omega, fun h => by have := (hl2 (i + 2) (by omega)).1 h; omega⟩ fun j hj hnj hbj hcl3 => ?_
      have hj' : j = i + 2 ∨ j = i + 3 := by
        have h0 : ¬ j < i + 2 := fun h => hnj ((hl2 j hj).2 h)
        omega
      have hs3 : (((listed.setIfInBounds i true).setIfInBounds (i + 1) true).setIfInBounds j true).size = ops.size := by simpa using hs
      rcases hj' with rfl | rfl
      · refine op_skip hoS hSg (nd ⟨_, _, _, hS⟩) (runS aI w1 eIq eIv r2) ?_
        rw [hSd, putn]
        have hl3 : ∀ j, j < ops.size → (Listed (((listed.setIfInBounds i true).setIfInBounds (i + 1) true).setIfInBounds (i + 2) true) j ↔ j < i + 3) := by
          intro j hj
          rw [set_listed (by omega), hl2 j hj]; omega
        refine any_step (f := 0) hs3 hcl3 hchk.edge ⟨i + 3, by omega, fun h => by have := (hl3 (i + 3) (by omega)).1 h; omega⟩ fun j hj hnj hbj hcl4 => ?_
        have hj' : j = i + 3 := by
          have h0 : ¬ j < i + 3 := fun h => hnj ((hl3 j hj).2 h)
          omega
        subst hj'
        refine op_skip hoB hBg (nd ⟨_, _, _, hB⟩) (runB aI _ eAp rfl (by rw [setRow_other _ _ _ _ (Ne.symm hbx)]; exact p2')) ?_
        rw [hBd, putn]
        refine any_done (by simpa using hs) (fun j hj => ?_) hfinal
        rw [set_listed (by omega), hl3 j hj]; omega
      · refine op_skip hoB hBg (nd ⟨_, _, _, hB⟩) (runB aI _ eAp rfl p2') ?_
        rw [hBd, putn]
        have hl3 : ∀ j, j < ops.size → (Listed (((listed.setIfInBounds i true).setIfInBounds (i + 1) true).setIfInBounds (i + 3) true) j ↔ j < i + 2 ∨ j = i + 3) := by
          intro j hj
          rw [set_listed (by omega), hl2 j hj]; omega
        refine any_step (f := 0) hs3 hcl3 hchk.edge ⟨i + 2, by omega, fun h => by have := (hl3 (i + 2) (by omega)).1 h; omega⟩ fun j hj hnj hbj hcl4 => ?_
        have hj' : j = i + 2 := by
          have h0 : ¬ (j < i + 2 ∨ j = i + 3) := fun h => hnj ((hl3 j hj).2 h)
          omega
        subst hj'
        refine op_skip hoS hSg (nd ⟨_, _, _, hS⟩) (runS aI _ eIq eIv (by rw [setRow_other _ _ _ _ hbx]; exact r2)) ?_
        rw [hSd, putn, setRow_comm _ (Ne.symm hbx)]
        refine any_done (by simpa using hs) (fun j hj => ?_) hfinal
        rw [set_listed (by omega), hl3 j hj]; omega
    · -- the slice is stored first
      refine op_skip hoB hBg (nd ⟨_, _, _, hB⟩) (runB aA _ eAp' (by rw [eAd, eId]) p2') ?_
      rw [hBd, putn]
      have hl2 : ∀ j, j < ops.size → (Listed ((listed.setIfInBounds i true).setIfInBounds (i + 3) true) j ↔ j < i + 1 ∨ j = i + 3) := by
        intro j hj
        rw [set_listed (by omega), hl1 j hj]; omega
      refine any_step (f := 1) hs2 hcl2 hchk.edge ⟨i + 1, by omega, fun h => by have := (hl2 (i + 1) (by omega)).1 h; omega⟩ fun j hj hnj hbj hcl3 => ?_
      have hj' : j = i + 1 := by
        have h0 : ¬ (j < i + 1 ∨ j = i + 3) := fun h => hnj ((hl2 j hj).2 h)
        have hcase : j = i + 1 ∨ j = i + 2 := by omega
        rcases hcase with h | h
        · exact h
        · subst h; have := (hl2 (i + 1) (by omega)).1 (hbj (i + 1) hchk.b3); omega
      subst hj'
      refine op_value hoI hIg (by intro c hc; rw [hI] at hc; cases hc) (runI _) ?_
      rw [hId, ← haI]
      have hs3 : (((listed.setIfInBounds i true).setIfInBounds (i + 3) true).setIfInBounds (i + 1) true).size = ops.size := by simpa using hs
      have hl3 : ∀ j, j < ops.size → (Listed (((listed.setIfInBounds i true).setIfInBounds (i + 3) true).setIfInBounds (i + 1) true) j ↔ j < i + 2 ∨ j = i + 3) := by
        intro j hj
        rw [set_listed (by simp; omega), hl2 j hj]; omega
      refine any_step (f := 0) hs3 hcl3 hchk.edge ⟨i + 2, by omega, fun h => by have := (hl3 (i + 2) (by omega)).1 h; omega⟩ fun j hj hnj hbj hcl4 => ?_
      have hj' : j = i + 2 := by
        have h0 : ¬ (j < i + 2 ∨ j = i + 3) := fun h => hnj ((hl3 j hj).2 h)
        omega
      subst hj'
      refine op_skip hoS hSg (nd ⟨_, _, _, hS⟩) (runS aI _ eIq eIv (by rw [setRow_other _ _ _ _ hbx]; exact r2)) ?_
      rw [hSd, putn, setRow_comm _ (Ne.symm hbx)]
      refine any_done (by simpa using hs) (fun j hj => ?_) hfinal
      rw [set_listed (by simp; omega), hl3 j hj]; omega
  · simp at hp

end Go.AI
