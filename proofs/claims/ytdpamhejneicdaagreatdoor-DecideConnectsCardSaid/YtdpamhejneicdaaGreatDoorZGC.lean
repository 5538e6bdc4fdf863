/- The abstract machine: new boxes. -/
import Derived.Test.YtdpamhejneicdaaGreatDoorZGB
namespace Go.AI
set_option linter.unusedVariables false
set_option linter.unusedSimpArgs false
open Go

variable {G : Prg} {an : Ann} {E : EE} {B0 : Nat → Prop} {st : St} {ρ ρm : Env} {σ σ' : Sig} {ups : List (Nat × Slot)} {a : Act} {o : Oper} {tmps : Array Value}

/-- A slot is set anew, in a world in which the other slots still hold. -/
theorem OK.relay (h : OK G an B0 st ρ σ tmps) {st' : St} {d : Nat} {s : Slot} {c : Value} (hd : d < an.ntmps) (hfit : fitsSlot an d s = true)
    (hslot : ∀ t, t ≠ d → SlotOK st'.w st'.ext st'.ι st'.L t (ρ t) (tmps.getD t undef)) (hsl : SlotOK st'.w st'.ext st'.ι st'.L d s c)
    (hlp : ∀ t off, t ≠ d → ρ t = .lptr d off → s.isLoc = true) (hlp2 : ∀ s' off, s = .lptr s' off → s' ≠ d ∧ (ρ s').isLoc = true)
    (hla : ∀ t n, t ≠ d → ρ t = .larr d n → ∃ sz es, s = .arr sz es ∧ n ≤ es.length) (hla2 : ∀ s' n, s = .larr s' n → s' ≠ d ∧ ∃ sz es, ρ s' = .arr sz es ∧ n ≤ es.length)
    (hβ : ∀ t, t ≠ d → st'.L.β t = st.L.β t) (hγ : ∀ t, t ≠ d → ∀ i, st'.L.γ t i = st.L.γ t i)
    (hpriv : ∀ p b, p.slot = d → Has st'.L (upd ρ d s) p b → ¬ B0 b ∧ b < st'.w.heap.size ∧ ¬ st'.S b ∧ (∀ q, q.slot ≠ d → ¬ Has st.L ρ q b) ∧ ∀ q, q.slot = d → Has st'.L (upd ρ d s) q b → p = q)
    (hpriv' : ∀ p b, p.slot ≠ d → Has st.L ρ p b → b < st'.w.heap.size ∧ ¬ st'.S b)
    (hbase : ∀ b, B0 b → b < st'.w.heap.size) (hout : ∀ b, st'.S b → ¬ B0 b) (hsr : SR G st'.w st'.ext st'.ι st'.S st'.SL σ') :
    OK G an B0 st' (upd ρ d s) σ' (tmps.setIfInBounds d c) := by
  have hd' : d < tmps.size := by rw [h.size]; exact hd
  have hhas : ∀ p b, p.slot ≠ d → (Has st'.L (upd ρ d s) p b ↔ Has st.L ρ p b) := by
    intro p b hp
    cases p with
    | box t => simp only [Place.slot] at hp; simp [Has, upd_other _ _ _ hp, hβ t hp]
    | own t i => simp only [Place.slot] at hp; simp [Has, upd_other _ _ _ hp, hγ t hp]
  refine ⟨by simpa using h.size, fun t => ?_, fun t => ?_, fun t s' off ht => ?_, fun p b hh => ?_, fun p q b hh hq => ?_, hbase, hout, hsr, fun t s' n ht => ?_⟩
  · rw [getD_set _ _ _ hd']
    by_cases ht : t = d
    · subst ht; rw [upd_same, if_pos rfl]; exact hsl
    · rw [upd_other _ _ _ ht, if_neg ht]; exact hslot t ht
  · by_cases ht : t = d
    · subst ht; rw [upd_same]; intro _; exact hfit
    · rw [upd_other _ _ _ ht]; exact h.fits t
  · by_cases ht' : t = d
    · subst ht'; rw [upd_same] at ht
      obtain ⟨k1, k2⟩ := hlp2 _ _ ht
      rw [upd_other _ _ _ k1]; exact k2
    · rw [upd_other _ _ _ ht'] at ht
      by_cases hs : s' = d
      · subst hs; rw [upd_same]; exact hlp t off ht' ht
      · rw [upd_other _ _ _ hs]; exact h.lptr t s' off ht
  · by_cases hs : p.slot = d
    · have := hpriv p b hs hh
      exact ⟨this.1, this.2.1, this.2.2.1⟩
    · have := (hhas p b hs).1 hh
      have h' := hpriv' p b hs this
      exact ⟨(h.priv p b this).1, h'.1, h'.2⟩
  · by_cases hs : p.slot = d <;> by_cases hs' : q.slot = d
    · exact (hpriv p b hs hh).2.2.2.2 q hs' hq
    · exact absurd ((hhas q b hs').1 hq) ((hpriv p b hs hh).2.2.2.1 q hs')
    · exact absurd ((hhas p b hs).1 hh) ((hpriv q b hs' hq).2.2.2.1 p hs)
    · exact h.inj p q b ((hhas p b hs).1 hh) ((hhas q b hs').1 hq)
  · by_cases ht' : t = d
    · subst ht'; rw [upd_same] at ht
      obtain ⟨k1, sz, es, k2, k3⟩ := hla2 _ _ ht
      exact ⟨sz, es, by rw [upd_other _ _ _ k1]; exact k2, k3⟩
    · rw [upd_other _ _ _ ht'] at ht
      by_cases hs : s' = d
      · subst hs; rw [upd_same]; exact hla t n ht' ht
      · rw [upd_other _ _ _ hs]; exact h.larr t s' n ht

theorem lookup_mem {l : List (Nat × Nat)} {t d : Nat} (h : l.lookup t = some d) : (t, d) ∈ l := by
  induction l with
  | nil => simp at h
  | cons p l ih =>
    obtain ⟨k, v⟩ := p
    simp only [List.lookup] at h
    split at h
    · rename_i hk
      have hk' : t = k := by simpa using hk
      simp at h; subst h; subst hk'; simp
    · exact List.mem_cons_of_mem _ (ih h)

theorem noInto_spec (h : OK G an B0 st ρ σ tmps) {d : Nat} (hm : ∀ p ∈ an.into, p.2 = d → ρm p.1 = ρ p.1) (hn : noInto an ρm d = true) : (∀ t off, ρ t ≠ .lptr d off) ∧ ∀ t n, ρ t ≠ .larr d n := by
  unfold noInto at hn
  rw [List.all_eq_true] at hn
  constructor
  · intro t off ht
    have hfit := h.fits t (by rw [ht]; simp)
    rw [ht] at hfit
    simp only [fitsSlot, Bool.and_eq_true] at hfit
    have hmem := lookup_mem (l := an.into) (t := t) (d := d) (by simpa using hfit.1.2)
    have := hn _ hmem
    rw [hm _ hmem rfl, ht] at this
    simp at this
  · intro t off ht
    have hfit := h.fits t (by rw [ht]; simp)
    rw [ht] at hfit
    simp only [fitsSlot, Bool.and_eq_true] at hfit
    have hmem := lookup_mem (l := an.into) (t := t) (d := d) (by simpa using hfit.1.2)
    have := hn _ hmem
    rw [hm _ hmem rfl, ht] at this
    simp at this

/-- A new private box. -/
theorem goal_newloc {d : Nat} {cs : List AV} {ow : List Nat} {c : Value} {t : TypeId} (h : OK G an B0 st ρ σ a.tmps) (hd : o.dst = some d) (hf : Fit an (puts o.dst (.loc cs ow)))
    (hm : ∀ p ∈ an.into, p.2 = d → ρm p.1 = ρ p.1) (hno : noInto an ρm d = true)
    (hr : (execOp a.eval o).run G.P st.w = .ok (.value (.pointer (some ⟨st.w.heap.size, 0, none⟩))) (st.w.alloc (.cells c.cells t)))
    (hreps : Reps st.w st.ext st.ι cs c.cells.toList) (h1 : ∀ x ∈ c.cells.toList, x.oneCell' = true) (how : ∀ i ∈ ow, ∀ x, c.cells[i]? = some x → ∀ p n cap, x = .slice p n cap → cap = n) :
    OpGoal G an B0 st a o (apply (puts o.dst (.loc cs ow)) ρ) σ := by
  obtain ⟨f1, f2⟩ := hf (d, .loc cs ow) (by simp [puts, hd])
  have hnew : Newer st.w (st.w.alloc (.cells c.cells t)) := Newer.alloc _ _
  obtain ⟨hok, hst⟩ := h.newer (ext' := st.ext) hnew (fun _ _ => rfl) (fun b hb => h.sr.fresh b (Nat.le_trans hnew.size hb))
  have hgrow := hnew.grow h.sr (ext' := st.ext) (fun _ _ => rfl)
  have hcell : (st.w.alloc (.cells c.cells t)).heap[st.w.heap.size]? = some (.cells c.cells t (0, 0)) := heap_alloc_new st.w _
  let st' : St := { st with w := st.w.alloc (.cells c.cells t), L := (st.L.setγ d fun _ => none).setβ d st.w.heap.size }
  have hsz : (st.w.alloc (.cells c.cells t)).heap.size = st.w.heap.size + 1 := by simp
  refine ⟨_, st', .inl hr, ?_, ⟨hst.grow, hst.size, hst.blk, hst.os, hst.tape, hst.output⟩⟩
  simp only [puts, apply, hd, put_tmps, List.foldl]
  refine hok.relay (st' := st') f1 f2 (fun u hu => ?_) ?_ (fun t' off _ ht => rfl) (fun s' off hs => by cases hs) (fun u n _ ht => absurd ht ((noInto_spec h hm hno).2 u n)) (fun s' n hs => by cases hs) (fun u hu => by simp [st', Lay.setβ, Lay.setγ, hu]) (fun u hu i => by simp [st', Lay.setβ, Lay.setγ, hu])
    (fun p b hp hh => ?_) (fun p b hp hh => ?_) hok.base hok.out hok.sr
  · refine (hok.slot u).lay (fun _ => by simp [st', Lay.setβ, Lay.setγ, hu]) (fun s' off hs => ?_) (fun i _ => by simp [st', Lay.setβ, Lay.setγ, hu]) (fun _ => rfl) (fun s' n hs => ?_)
    · have : s' ≠ d := by rintro rfl; exact (noInto_spec h hm hno).1 u off hs
      simp [st', Lay.setβ, Lay.setγ, this]
    · have : s' ≠ d := by rintro rfl; exact (noInto_spec h hm hno).2 u n hs
      simp [st', Lay.setβ, Lay.setγ, this]
  · have hβ : st'.L.β d = st.w.heap.size := by simp [st', Lay.setβ]
    refine ⟨by rw [hβ], by rw [hβ]; exact h.sr.fresh _ (Nat.le_refl _), c.cells, t, by rw [hβ]; exact hcell, hreps.mono hgrow, h1, fun i hi aa x ha hx => ?_⟩
    have : st'.L.γ d i = none := by simp [st', Lay.setβ, Lay.setγ]
    rw [this]
    exact how i hi x hx
  · have hb : p = .box d ∧ b = st.w.heap.size := by
      cases p with
      | box t' =>
        simp only [Place.slot] at hp; subst hp
        exact ⟨rfl, by have := hh.2; simp [st', Lay.setβ] at this; exact this.symm⟩
      | own t' i =>
        simp only [Place.slot] at hp; subst hp
        have := hh.2
        simp [st', Lay.setβ, Lay.setγ] at this
    obtain ⟨rfl, rfl⟩ := hb
    refine ⟨h.top, by simp [st'], fun hS => by have := h.sr.small _ hS; omega, fun q _ hq => by have := (h.priv q _ hq).2.1; omega, fun q hq hh' => ?_⟩
    cases q with
    | box t' => simp only [Place.slot] at hq; subst hq; rfl
    | own t' i =>
      simp only [Place.slot] at hq; subst hq
      have := hh'.2
      simp [st', Lay.setβ, Lay.setγ] at this
  · have := hok.priv p b hh
    exact ⟨this.2.1, this.2.2⟩

/-- A new object among the shared ones. -/
theorem SR.add {w w' : World} {ext ext' : Nat → Nat} {ι : List Nat} {S : Nat → Prop} {SL : Nat → Nat → Option Nat} (h : SR G w ext ι S SL σ) (hn : Newer w w') (he : ∀ b, b < w.heap.size → ext' b = ext b) (hf : ∀ b, w'.heap.size ≤ b → ext' b = 0)
    {b : Nat} (hb : w.heap.size ≤ b) (hb' : b < w'.heap.size) {o : AObj} (hobj : ObjOK w' ext' (ι ++ [b]) G (fun _ _ => none) (σ ++ [o]) σ.length b o) :
    Grow w ext ι w' ext' (ι ++ [b]) ∧ SR G w' ext' (ι ++ [b]) (fun x => S x ∨ x = b) (fun i => if i = σ.length then fun _ => none else SL i) (σ ++ [o]) := by
  have hg0 := hn.grow h he
  have hg : Grow w ext ι w' ext' (ι ++ [b]) := ⟨hg0.cell, hg0.ext, List.prefix_append _ _⟩
  have hold : ∀ x, S x → w'.heap[x]? = w.heap[x]? ∧ ext' x = ext x := fun x hx => ⟨hn.blk x (h.small x hx), he x (h.small x hx)⟩
  have hget : ∀ (id : Nat) (o' : AObj), (σ ++ [o])[id]? = some o' → (id < σ.length ∧ σ[id]? = some o') ∨ (id = σ.length ∧ o' = o) := by
    intro id o' ho'
    rcases Nat.lt_trichotomy id σ.length with hi | hi | hi
    · rw [List.getElem?_append_left hi] at ho'; exact .inl ⟨hi, ho'⟩
    · subst hi; simp at ho'; exact .inr ⟨rfl, ho'.symm⟩
    · rw [List.getElem?_eq_none (by simp; omega)] at ho'; cases ho'
  have hgetι : ∀ (id x : Nat), id < σ.length → (ι ++ [b])[id]? = some x → ι[id]? = some x := by
    intro id x hi hx
    rwa [List.getElem?_append_left (by rw [h.len]; exact hi)] at hx
  refine ⟨hg, ⟨by simp [h.len], ?_, fun id o' x ho' hx => ?_, fun x hx => ?_, fun id o' i x ho' hi hx => ?_, fun id o' i id' o'' i' x ho' hi hx ho'' hi' hx' => ?_, fun x hx => ?_, hf, fun g aa ha => (h.globals g aa ha).mono hg⟩⟩
  · rw [List.nodup_append]
    refine ⟨h.nodup, by simp, fun x hx y hy => ?_⟩
    simp at hy; subst hy
    rintro rfl
    have := h.small _ (h.inS _ hx)
    omega
  · rcases hget id o' ho' with ⟨hi, ho'⟩ | ⟨rfl, rfl⟩
    · have hx' := hgetι id x hi hx
      have := (h.obj id o' x ho' hx').keep (σ' := σ ++ [o]) hg (hold x (h.inS x (List.mem_of_getElem? hx'))) fun i hi' c hc => hold c (h.ownS id o' i c ho' hi' hc).1
      cases o' with
      | box cs ow =>
        obtain ⟨k1, vs, e, k2, k3, k4, k5⟩ := this
        exact ⟨k1, vs, e, k2, k3, k4, fun i hi' aa y ha hy => by simp only [if_neg (Nat.ne_of_lt hi)]; exact k5 i hi' aa y ha hy⟩
      | loop L => exact ⟨this.ex⟩
    · have hxb : x = b := by rw [← h.len] at hx; simpa using hx.symm
      subst hxb
      cases o' with
      | box cs ow =>
        obtain ⟨k1, vs, e, k2, k3, k4, k5⟩ := hobj
        exact ⟨k1, vs, e, k2, k3, k4, fun i hi' aa y ha hy => by simp only [if_true]; exact k5 i hi' aa y ha hy⟩
      | loop L => exact ⟨hobj.ex⟩
  · rw [List.mem_append] at hx
    rcases hx with hx | hx
    · exact .inl (h.inS x hx)
    · simp at hx; exact .inr hx
  · rcases hget id o' ho' with ⟨hi', ho'⟩ | ⟨rfl, rfl⟩
    · simp only [if_neg (Nat.ne_of_lt hi')] at hx
      obtain ⟨k1, k2⟩ := h.ownS id o' i x ho' hi hx
      refine ⟨.inl k1, fun hm => ?_⟩
      rw [List.mem_append] at hm
      rcases hm with hm | hm
      · exact k2 hm
      · simp at hm; subst hm; have := h.small _ k1; omega
    · simp at hx
  · rcases hget id o' ho' with ⟨hj, ho'⟩ | ⟨rfl, rfl⟩
    · rcases hget id' o'' ho'' with ⟨hj', ho''⟩ | ⟨rfl, rfl⟩
      · simp only [if_neg (Nat.ne_of_lt hj)] at hx
        simp only [if_neg (Nat.ne_of_lt hj')] at hx'
        exact h.inj id o' i id' o'' i' x ho' hi hx ho'' hi' hx'
      · simp at hx'
    · simp at hx
  · rcases hx with hx | rfl
    · exact Nat.lt_of_lt_of_le (h.small x hx) hn.size
    · exact hb'

/-- The frame, where a new object comes among the shared ones. -/
theorem OK.add (h : OK G an B0 st ρ σ tmps) {w' : World} {ext' : Nat → Nat} (hn : Newer st.w w') (he : ∀ b, b < st.w.heap.size → ext' b = st.ext b) (hf : ∀ b, w'.heap.size ≤ b → ext' b = 0)
    {b : Nat} (hb : st.w.heap.size ≤ b) (hb' : b < w'.heap.size) {o : AObj} (hobj : ObjOK w' ext' (st.ι ++ [b]) G (fun _ _ => none) (σ ++ [o]) σ.length b o) :
    ∃ st' : St, st'.w = w' ∧ st'.ext = ext' ∧ st'.ι = st.ι ++ [b] ∧ (∀ x, st'.S x ↔ st.S x ∨ x = b) ∧ st'.L = st.L ∧ OK G an B0 st' ρ (σ ++ [o]) tmps ∧ Step B0 st st' := by
  obtain ⟨hg, hsr⟩ := h.sr.add hn he hf hb hb' hobj
  refine ⟨{ st with w := w', ext := ext', ι := st.ι ++ [b], S := fun x => st.S x ∨ x = b, SL := fun i => if i = σ.length then fun _ => none else st.SL i }, rfl, rfl, rfl, fun _ => Iff.rfl, rfl,
    ⟨h.size, fun t => ?_, h.fits, h.lptr, fun p x hp => ?_, h.inj, fun x hx => Nat.lt_of_lt_of_le (h.base x hx) hn.size, fun x hx => ?_, hsr, h.larr⟩, ⟨hg, hn.size, fun x hx => ?_, hn.os, hn.tape, hn.output⟩⟩
  · refine (h.slot t).keep hg (fun hl => ?_) (fun i hi c hc => ?_)
    · have := (h.priv (.box t) (st.L.β t) ⟨hl, rfl⟩).2.1
      exact ⟨hn.blk _ this, he _ this⟩
    · have := (h.priv (.own t i) c ⟨hi, hc⟩).2.1
      exact ⟨hn.blk _ this, he _ this⟩
  · have := h.priv p x hp
    refine ⟨this.1, Nat.lt_of_lt_of_le this.2.1 hn.size, fun hx => ?_⟩
    rcases hx with hx | rfl
    · exact this.2.2 hx
    · omega
  · rcases hx with hx | rfl
    · exact h.out x hx
    · intro hB; have := h.base x hB; omega
  · exact ⟨hn.blk x (h.base x hx), he x (h.base x hx)⟩

/-- A plain value is made in another world. -/
theorem goal_plain' {v : AV} {c : Value} {st' : St} (h : OK G an B0 st' ρ σ a.tmps) (hst : Step B0 st st') (hf : Fit an (puts o.dst (.val v [])))
    (hr : (execOp a.eval o).run G.P st.w = .ok (.value c) st'.w) (hv : Rep st'.w st'.ext st'.ι v c) : OpGoal G an B0 st a o (apply (puts o.dst (.val v [])) ρ) σ := by
  cases hd : o.dst with
  | none =>
    refine ⟨c, st', .inl hr, ?_, hst⟩
    simpa [puts, apply, hd, Act.put] using h
  | some d =>
    obtain ⟨h1, h2⟩ := hf (d, .val v []) (by simp [puts, hd])
    obtain ⟨L, hL⟩ := h.putPlain h1 (fit_val h2) hv
    refine ⟨c, { st' with L := L }, .inl hr, ?_, ⟨hst.grow, hst.size, hst.blk, hst.os, hst.tape, hst.output⟩⟩
    simpa [puts, apply, hd, put_tmps] using hL

/-- A new shared box. -/
theorem goal_newsh {cs : List AV} {ow : List Nat} {c : Value} {t : TypeId} (h : OK G an B0 st ρ σ a.tmps) (hf : Fit an (puts o.dst (.val (.ptr σ.length 0) [])))
    (hr : (execOp a.eval o).run G.P st.w = .ok (.value (.pointer (some ⟨st.w.heap.size, 0, none⟩))) (st.w.alloc (.cells c.cells t)))
    (hreps : Reps st.w st.ext st.ι cs c.cells.toList) (h1 : ∀ x ∈ c.cells.toList, x.oneCell' = true) (how : ∀ i ∈ ow, ∀ x, c.cells[i]? = some x → ∀ p n cap, x = .slice p n cap → cap = n) :
    OpGoal G an B0 st a o (apply (puts o.dst (.val (.ptr σ.length 0) [])) ρ) (σ ++ [.box cs ow]) := by
  have hnew : Newer st.w (st.w.alloc (.cells c.cells t)) := Newer.alloc _ _
  have hcell : (st.w.alloc (.cells c.cells t)).heap[st.w.heap.size]? = some (.cells c.cells t (0, 0)) := heap_alloc_new st.w _
  have hg0 := hnew.grow h.sr (ext' := st.ext) (fun _ _ => rfl)
  have hg : Grow st.w st.ext st.ι (st.w.alloc (.cells c.cells t)) st.ext (st.ι ++ [st.w.heap.size]) := ⟨hg0.cell, hg0.ext, List.prefix_append _ _⟩
  obtain ⟨st', e1, e2, e3, _, _, hok, hst⟩ := h.add (ext' := st.ext) (o := .box cs ow) hnew (fun _ _ => rfl) (fun b hb => h.sr.fresh b (Nat.le_trans hnew.size hb)) (Nat.le_refl _) (by simp)
    ⟨h.sr.fresh _ (Nat.le_refl _), c.cells, t, hcell, hreps.mono hg, h1, fun i hi aa x _ hx => how i hi x hx⟩
  refine goal_plain' hok hst hf (by rw [e1]; exact hr) (.ptr _ _ _ ?_)
  rw [e3, ← h.sr.len]; simp

/-- A box that never changes. -/
theorem goal_newimm {cs : List AV} {c : Value} {t : TypeId} (h : OK G an B0 st ρ σ a.tmps) (hf : Fit an (puts o.dst (.val (.iptr cs) [])))
    (hr : (execOp a.eval o).run G.P st.w = .ok (.value (.pointer (some ⟨st.w.heap.size, 0, none⟩))) (st.w.alloc (.cells c.cells t)))
    (hreps : Reps st.w st.ext st.ι cs c.cells.toList) (h1 : ∀ x ∈ c.cells.toList, x.oneCell' = true) :
    OpGoal G an B0 st a o (apply (puts o.dst (.val (.iptr cs) [])) ρ) σ := by
  have hnew : Newer st.w (st.w.alloc (.cells c.cells t)) := Newer.alloc _ _
  have hcell : (st.w.alloc (.cells c.cells t)).heap[st.w.heap.size]? = some (.cells c.cells t (0, 0)) := heap_alloc_new st.w _
  let ext' : Nat → Nat := fun b => if b = st.w.heap.size then c.cells.size else st.ext b
  have hext : ∀ b, b < st.w.heap.size → ext' b = st.ext b := fun b hb => by simp only [ext']; rw [if_neg (by omega)]
  have hextn : ext' st.w.heap.size = c.cells.size := by simp [ext']
  obtain ⟨hok, hst⟩ := h.newer hnew hext (fun b hb => by
    have : st.w.heap.size + 1 ≤ b := by simpa using hb
    simp only [ext']; rw [if_neg (by omega)]; exact h.sr.fresh b (by omega))
  have hgrow := hnew.grow h.sr hext
  refine goal_plain' hok hst hf hr (.iptr cs c.cells.toList st.w.heap.size 0 (hreps.mono hgrow) h1 fun i v hi => ?_)
  rw [Nat.zero_add, cell_row hcell]
  show c.cells[i]? = some v ∧ i < ext' st.w.heap.size
  rw [hextn]
  have hlt := (List.getElem?_eq_some_iff.1 hi).1
  exact ⟨by simpa using hi, by simpa using hlt⟩

theorem sound_alloc {t : TypeId} (ho : o.op = .alloc t) (h : OK G E.an B0 st ρ σ a.tmps) (hs : Sub ρm ρ) (hm : ∀ d, o.dst = some d → ∀ p ∈ E.an.into, p.2 = d → ρm p.1 = ρ p.1)
    (hc : core G E o ρm σ = some (ups, σ')) (hf : Fit E.an ups) : OpGoal G E.an B0 st a o (apply ups ρ) σ' := by
  simp only [core, ho, Option.bind_eq_bind, Option.bind_eq_some_iff] at hc
  obtain ⟨zc, hzc, d, hd, hc⟩ := hc
  obtain ⟨it, z, hit, hz, hzt⟩ := zeroC_info hzc
  have hzg := tcells_good (w := st.w) (ext := st.ext) (ι := st.ι) _ _ _ _ hzt
  have hr : (execOp a.eval o).run G.P st.w = .ok (.value (.pointer (some ⟨st.w.heap.size, 0, none⟩))) (st.w.alloc (.cells z.cells t)) := by
    simp [execOp, ho, Instr.alloc, zeroValue, typeInfo, hit, hz, newVar, newRow]
  split at hc
  · split at hc
    · rename_i hno
      simp at hc; obtain ⟨rfl, rfl⟩ := hc
      exact goal_newloc h hd hf (hm d hd) hno hr hzg.1 (fun x hx => (hzg.2.1 x hx).1) (nils_good (w := st.w) (ext := st.ext) (ι := st.ι) hzt)
    · simp at hc
  · simp at hc; obtain ⟨rfl, rfl⟩ := hc
    exact goal_newsh h hf hr hzg.1 (fun x hx => (hzg.2.1 x hx).1) (nils_good (w := st.w) (ext := st.ext) (ι := st.ι) hzt)

theorem sound_box {t : TypeId} {x : Operand} (ho : o.op = .box t x) (h : OK G E.an B0 st ρ σ a.tmps) (hs : Sub ρm ρ) (hm : ∀ d, o.dst = some d → ∀ p ∈ E.an.into, p.2 = d → ρm p.1 = ρ p.1)
    (hc : core G E o ρm σ = some (ups, σ')) (hf : Fit E.an ups) : OpGoal G E.an B0 st a o (apply ups ρ) σ' := by
  simp only [core, ho, Option.bind_eq_bind, Option.bind_eq_some_iff] at hc
  obtain ⟨v, hv, d, hd, hc⟩ := hc
  split at hc
  · simp at hc
  · rename_i hokc
    obtain ⟨o1, o2⟩ := (opv_rep h rfl hs hv).one (eq_true_of_ne_false hokc)
    have hr : (execOp a.eval o).run G.P st.w = .ok (.value (.pointer (some ⟨st.w.heap.size, 0, none⟩))) (st.w.alloc (.cells (a.eval x).cells t)) := by
      simp [execOp, ho, Instr.box, newVar, newRow]
    split at hc
    · split at hc
      · rename_i hno
        simp at hc; obtain ⟨rfl, rfl⟩ := hc
        exact goal_newloc h hd hf (hm d hd) hno hr o2 o1 (by simp)
      · simp at hc
    · split at hc
      · simp at hc; obtain ⟨rfl, rfl⟩ := hc
        exact goal_newimm h hf hr o2 o1
      · simp at hc; obtain ⟨rfl, rfl⟩ := hc
        exact goal_newsh h hf hr o2 o1 (by simp)

end Go.AI

/- The abstract machine: what stands in boxes is read and written. -/
namespace Go.AI
set_option linter.unusedVariables false
set_option linter.unusedSimpArgs false
open Go

variable {G : Prg} {an : Ann} {E : EE} {B0 : Nat → Prop} {st : St} {ρ ρm : Env} {σ σ' : Sig} {ups : List (Nat × Slot)} {a : Act} {o : Oper} {tmps : Array Value}

theorem Turn.refl (w : World) (k : Nat) : Turn w w k := ⟨rfl, fun _ _ => rfl, rfl, rfl, rfl⟩

/-- One shared box is set anew. -/
theorem SR.setBox {w w' : World} {ext : Nat → Nat} {ι : List Nat} {S S' : Nat → Prop} {SL : Nat → Nat → Option Nat} (h : SR G w ext ι S SL σ) {id b : Nat} {cs cs' : List AV} {ow ow' : List Nat} {g' : Nat → Option Nat}
    (hid : σ[id]? = some (.box cs ow)) (hb : ι[id]? = some b) (ht : Turn w w' b) (hnew : ∀ ι', Grow w ext ι w' ext ι' → ObjOK w' ext ι' G (fun _ => g') σ id b (.box cs' ow'))
    (hS1 : ∀ x ∈ ι, S' x) (hS2 : ∀ id' o i x, id' ≠ id → σ[id']? = some o → i ∈ o.ows → SL id' i = some x → S' x) (hS3 : ∀ x, S' x → x < w.heap.size)
    (hg : ∀ i ∈ ow', ∀ x, g' i = some x → S' x ∧ x ∉ ι ∧ (∀ id' o i', id' ≠ id → σ[id']? = some o → i' ∈ o.ows → SL id' i' ≠ some x) ∧ ∀ j ∈ ow', g' j = some x → i = j) :
    Grow w ext ι w' ext ι ∧ SR G w' ext ι S' (fun i => if i = id then g' else SL i) (σ.set id (.box cs' ow')) := by
  have hold := h.obj id _ b hid hb
  have hg0 : Grow w ext ι w' ext ι := ht.grow (fun _ _ => rfl) (Nat.le_refl _) fun oo v ho _ => by rw [hold.1] at ho; omega
  have hidlt := (List.getElem?_eq_some_iff.1 hid).1
  have hget : ∀ (id' : Nat) (o' : AObj), (σ.set id (.box cs' ow'))[id']? = some o' → (id' ≠ id ∧ σ[id']? = some o') ∨ (id' = id ∧ o' = .box cs' ow') := by
    intro id' o' ho'
    by_cases hi : id' = id
    · subst hi; rw [List.getElem?_set_self hidlt] at ho'; simp at ho'; exact .inr ⟨rfl, ho'.symm⟩
    · rw [List.getElem?_set_ne (Ne.symm hi)] at ho'; exact .inl ⟨hi, ho'⟩
  have hne : ∀ id' x, id' ≠ id → ι[id']? = some x → x ≠ b := by
    intro id' x hi hx hxb
    subst hxb
    exact hi ((List.getElem?_inj (List.getElem?_eq_some_iff.1 hx).1 h.nodup).1 (hx.trans hb.symm))
  refine ⟨hg0, ⟨by simp [h.len], h.nodup, fun id' o' x ho' hx => ?_, hS1, fun id' o' i x ho' hi hx => ?_, fun id1 o1 i1 id2 o2 i2 x h1 hi1 hx1 h2 hi2 hx2 => ?_, fun x hx => by rw [ht.size]; exact hS3 x hx, fun x hx => h.fresh x (by rw [← ht.size]; exact hx), fun g aa ha => (h.globals g aa ha).mono hg0⟩⟩
  · rcases hget id' o' ho' with ⟨hi, ho'⟩ | ⟨rfl, rfl⟩
    · have hxb := hne id' x hi hx
      have := (h.obj id' o' x ho' hx).keep (σ' := σ.set id (.box cs' ow')) hg0 ⟨ht.blk x hxb, rfl⟩ fun i hi' c hc => by
        have := (h.ownS id' o' i c ho' hi' hc).2
        exact ⟨ht.blk c (by rintro rfl; exact this (List.mem_of_getElem? hb)), rfl⟩
      cases o' with
      | box cs ow =>
        obtain ⟨k1, vs, e, k2, k3, k4, k5⟩ := this
        exact ⟨k1, vs, e, k2, k3, k4, fun i hi' aa y ha hy => by simp only [if_neg hi]; exact k5 i hi' aa y ha hy⟩
      | loop L => exact ⟨this.ex⟩
    · have hxb : x = b := by rw [hb] at hx; simpa using hx.symm
      subst hxb
      obtain ⟨k1, vs, e, k2, k3, k4, k5⟩ := hnew ι hg0
      exact ⟨k1, vs, e, k2, k3, k4, fun i hi' aa y ha hy => by simp only [if_true]; exact k5 i hi' aa y ha hy⟩
  · rcases hget id' o' ho' with ⟨hj, ho'⟩ | ⟨rfl, rfl⟩
    · simp only [if_neg hj] at hx
      exact ⟨hS2 id' o' i x hj ho' hi hx, (h.ownS id' o' i x ho' hi hx).2⟩
    · simp only [if_true] at hx
      have := hg i hi x hx
      exact ⟨this.1, this.2.1⟩
  · rcases hget id1 o1 h1 with ⟨hj1, q1⟩ | ⟨h1e, rfl⟩ <;> rcases hget id2 o2 h2 with ⟨hj2, q2⟩ | ⟨h2e, rfl⟩
    · simp only [if_neg hj1] at hx1
      simp only [if_neg hj2] at hx2
      exact h.inj id1 o1 i1 id2 o2 i2 x q1 hi1 hx1 q2 hi2 hx2
    · subst h2e
      simp only [if_neg hj1] at hx1
      simp only [if_true] at hx2
      exact absurd hx1 ((hg i2 hi2 x hx2).2.2.1 id1 o1 i1 hj1 q1 hi1)
    · subst h1e
      simp only [if_neg hj2] at hx2
      simp only [if_true] at hx1
      exact absurd hx2 ((hg i1 hi1 x hx1).2.2.1 id2 o2 i2 hj2 q2 hi2)
    · subst h2e; subst h1e
      simp only [if_true] at hx1 hx2
      exact ⟨rfl, (hg i1 hi1 x hx1).2.2.2 i2 hi2 hx2⟩

theorem OK.setBox (h : OK G an B0 st ρ σ tmps) {w' : World} {S' : Nat → Prop} {id b : Nat} {cs cs' : List AV} {ow ow' : List Nat} {g' : Nat → Option Nat}
    (hid : σ[id]? = some (.box cs ow)) (hb : st.ι[id]? = some b) (ht : Turn st.w w' b) (hnew : ∀ ι', Grow st.w st.ext st.ι w' st.ext ι' → ObjOK w' st.ext ι' G (fun _ => g') σ id b (.box cs' ow'))
    (hS1 : ∀ x ∈ st.ι, S' x) (hS2 : ∀ id' o i x, id' ≠ id → σ[id']? = some o → i ∈ o.ows → st.SL id' i = some x → S' x) (hS3 : ∀ x, S' x → x < st.w.heap.size ∧ ¬ B0 x)
    (hS4 : ∀ p x, Has st.L ρ p x → ¬ S' x)
    (hg : ∀ i ∈ ow', ∀ x, g' i = some x → S' x ∧ x ∉ st.ι ∧ (∀ id' o i', id' ≠ id → σ[id']? = some o → i' ∈ o.ows → st.SL id' i' ≠ some x) ∧ ∀ j ∈ ow', g' j = some x → i = j) :
    OK G an B0 { st with w := w', S := S', SL := fun i => if i = id then g' else st.SL i } ρ (σ.set id (.box cs' ow')) tmps ∧
      Step B0 st { st with w := w', S := S', SL := fun i => if i = id then g' else st.SL i } := by
  obtain ⟨hg0, hsr⟩ := h.sr.setBox hid hb ht hnew hS1 hS2 (fun x hx => (hS3 x hx).1) hg
  have hSb : st.S b := h.sr.inS b (List.mem_of_getElem? hb)
  refine ⟨⟨h.size, fun t => ?_, h.fits, h.lptr, fun p x hp => ?_, h.inj, fun x hx => by simpa [ht.size] using h.base x hx, fun x hx => (hS3 x hx).2, hsr, h.larr⟩, ⟨hg0, by simp [ht.size], fun x hx => ⟨ht.blk x ?_, rfl⟩, ht.os, ht.tape, ht.output⟩⟩
  · exact h.slotTurn hg0 ht (fun _ _ => rfl) fun p _ hp => (h.priv p b hp).2.2 hSb
  · have := h.priv p x hp
    exact ⟨this.1, by simpa [ht.size] using this.2.1, hS4 p x hp⟩
  · rintro rfl; exact h.out _ hSb hx

theorem has_clear_loc {L : Lay} {ρ : Env} {s : Nat} {cs : List AV} {ow : List Nat} {off : Nat} (hs : ρ s = .loc cs ow) {p : Place} {b : Nat} (h : Has L (upd ρ s (.loc cs (ow.filter (· != off)))) p b) : Has L ρ p b ∧ p ≠ .own s off := by
  cases p with
  | box t =>
    by_cases ht : t = s
    · subst ht; simp only [Has, upd_same] at h ⊢; rw [hs]; exact ⟨⟨rfl, h.2⟩, by simp⟩
    · exact ⟨by simpa only [Has, upd_other _ _ _ ht] using h, by simp⟩
  | own t j =>
    by_cases ht : t = s
    · subst ht
      simp only [Has, upd_same, Slot.ows, List.mem_filter] at h
      refine ⟨⟨by rw [hs]; exact h.1.1, h.2⟩, ?_⟩
      intro e; cases e
      simp at h
    · exact ⟨by simpa only [Has, upd_other _ _ _ ht] using h, by intro e; cases e; exact ht rfl⟩

theorem sound_load {t : TypeId} {x : Operand} (ho : o.op = .load t x) (h : OK G E.an B0 st ρ σ a.tmps) (hs : Sub ρm ρ)
    (hc : core G E o ρm σ = some (ups, σ')) (hf : Fit E.an ups) : OpGoal G E.an B0 st a o (apply ups ρ) σ' := by
  simp only [core, ho, Option.bind_eq_bind, Option.bind_eq_some_iff] at hc
  split at hc
  · simp at hc
  · rename_i hty
    have hty : tyOk G.P t = true := eq_true_of_ne_false hty
    rw [Option.bind_eq_some_iff] at hc
    obtain ⟨p, hp, hc⟩ := hc
    have run : ∀ b off c, a.eval x = .pointer (some ⟨b, off, none⟩) → (loadVar t ⟨b, off, none⟩).run G.P st.w = .ok c st.w → (execOp a.eval o).run G.P st.w = .ok (.value c) st.w := by
      intro b off c he hl
      simp [execOp, ho, he, Instr.loadAt, Instr.sureAddr, hl]
    cases p with
    | im cs =>
      simp only [Option.bind_eq_some_iff] at hc
      obtain ⟨v, hv, hc⟩ := hc
      simp at hc; obtain ⟨rfl, rfl⟩ := hc
      obtain ⟨b, off, vs, he, hr, h1c, hcell⟩ := rep_iptr_inv (ptrOf_im h rfl hs hp)
      obtain ⟨c, hl, hrep, _⟩ := loadVar_run (P := G.P) st.w b off hty hr h1c (fun i x hx => (hcell i x hx).1) 0 hv
      exact goal_plain h hf (run _ _ _ he hl) hrep
    | loc s off =>
      obtain ⟨he, hl0⟩ := ptrOf_loc h rfl hs hp
      dsimp only at hc
      split at hc
      · rename_i cs ow hρ
        have hρ' := hs.val hρ (by simp)
        simp only [Option.bind_eq_some_iff] at hc
        obtain ⟨v, hv, d, hd, hc⟩ := hc
        have hsl := h.slot s
        rw [hρ'] at hsl
        obtain ⟨k1, k2, vs, e, k3, k4, k5, k6⟩ := hsl
        obtain ⟨c, hl, hrep, hcells⟩ := loadVar_run (P := G.P) st.w (st.L.β s) 0 hty k4 k5 (fun i x hx => by rw [cell_row k3, Nat.zero_add]; simpa using hx) off hv
        rw [Nat.zero_add] at hl
        have hrun := run _ _ _ he hl
        split at hc
        · rename_i hcond
          obtain ⟨c1, c2, c3⟩ := hcond
          simp at hc; obtain ⟨rfl, rfl⟩ := hc
          have hoff : off ∈ ow := by simpa using c2
          have h1 := h.clear (x := s) (s := .loc cs (ow.filter (· != off))) (.inr ⟨cs, ow, _, hρ', rfl, fun i hi => (List.mem_filter.1 hi).1⟩)
          have hplace : ∀ b, st.L.γ s off = some b → Has st.L ρ (.own s off) b := fun b hb => ⟨by rw [hρ']; exact hoff, hb⟩
          have := goal_put (g := fun _ => st.L.γ s off) (v := v) (ow := [0]) (o := o) h1 (fun u hu => hf u (by simp; right; simpa using hu)) hrun hrep (fun i hi aa xx ha hx => ?_) (fun i _ b hb => h.priv _ _ (hplace b hb)) (fun i _ b hb p hpp => ?_)
            (fun i hi j hj b _ _ => (List.mem_singleton.1 hi).trans (List.mem_singleton.1 hj).symm)
          · simpa [apply] using this
          · simp at hi; subst hi
            obtain ⟨q1, q2⟩ := hcells aa xx c3 ha hx
            exact k6 off hoff aa xx q1 (by simpa using q2)
          · obtain ⟨q1, q2⟩ := has_clear_loc hρ' hpp
            exact q2 (h.inj _ _ _ q1 (hplace b hb))
        · simp at hc; obtain ⟨rfl, rfl⟩ := hc
          exact goal_plain h hf hrun hrep
      · simp at hc
    | sh id off =>
      obtain ⟨b, hb, he⟩ := rep_ptr_inv (ptrOf_sh h rfl hs hp)
      dsimp only at hc
      split at hc
      · rename_i cs ow hσ
        simp only [Option.bind_eq_some_iff] at hc
        obtain ⟨v, hv, d, hd, hc⟩ := hc
        obtain ⟨k2, vs, e, k3, k4, k5, k6⟩ := h.sr.obj id _ b hσ hb
        obtain ⟨c, hl, hrep, hcells⟩ := loadVar_run (P := G.P) st.w b 0 hty k4 k5 (fun i x hx => by rw [cell_row k3, Nat.zero_add]; simpa using hx) off hv
        rw [Nat.zero_add] at hl
        have hrun := run _ _ _ he hl
        split at hc
        · rename_i hcond
          obtain ⟨c1, c2, c3⟩ := hcond
          simp at hc; obtain ⟨rfl, rfl⟩ := hc
          have hoff : off ∈ (AObj.box cs ow).ows := by simpa [AObj.ows] using c2
          obtain ⟨hok, hst⟩ := h.setBox (S' := fun x => st.S x ∧ st.SL id off ≠ some x) (cs' := cs) (ow' := ow.filter (· != off)) (g' := st.SL id) hσ hb (Turn.refl _ _)
            (fun ι' hg => ⟨k2, vs, e, k3, k4.mono hg, k5, fun i hi => k6 i (List.mem_filter.1 hi).1⟩)
            (fun x hx => ⟨h.sr.inS x hx, fun hx' => (h.sr.ownS id _ off x hσ hoff hx').2 hx⟩)
            (fun id' o' i x hi ho' hi' hx => ⟨(h.sr.ownS id' o' i x ho' hi' hx).1, fun hx' => hi (h.sr.inj id' o' i id _ off x ho' hi' hx hσ hoff hx').1⟩)
            (fun x hx => ⟨h.sr.small x hx.1, h.out x hx.1⟩) (fun p x hpp hx => (h.priv p x hpp).2.2 hx.1)
            (fun i hi x hx => by
              have hi1 := (List.mem_filter.1 hi).1
              have hi2 : i ≠ off := by have := (List.mem_filter.1 hi).2; simpa using this
              refine ⟨⟨(h.sr.ownS id _ i x hσ hi1 hx).1, fun hx' => hi2 (h.sr.inj id _ i id _ off x hσ hi1 hx hσ hoff hx').2⟩, (h.sr.ownS id _ i x hσ hi1 hx).2, fun id' o' i' hi' ho' hi'' hx' => hi' (h.sr.inj id' o' i' id _ i x ho' hi'' hx' hσ hi1 hx).1, fun j hj hx' => ?_⟩
              exact (h.sr.inj id _ i id _ j x hσ hi1 hx hσ (List.mem_filter.1 hj).1 hx').2)
          have hgoal := goal_put (g := fun _ => st.SL id off) (v := v) (ow := [0]) (o := o) hok hf hrun hrep (fun i hi aa xx ha hx => by
              simp at hi; subst hi
              obtain ⟨q1, q2⟩ := hcells aa xx c3 ha hx
              exact k6 off hoff aa xx q1 (by simpa using q2))
            (fun i _ x hx => by
              have := h.sr.ownS id _ off x hσ hoff hx
              exact ⟨h.out x this.1, h.sr.small x this.1, fun hS => hS.2 hx⟩)
            (fun i _ x hx p hpp => (h.priv p x hpp).2.2 (h.sr.ownS id _ off x hσ hoff hx).1)
            (fun i hi j hj b _ _ => (List.mem_singleton.1 hi).trans (List.mem_singleton.1 hj).symm)
          obtain ⟨v', st', g1, g2, g3⟩ := hgoal
          exact ⟨v', st', g1, g2, hst.trans g3⟩
        · simp at hc; obtain ⟨rfl, rfl⟩ := hc
          exact goal_plain h hf hrun hrep
      · simp at hc

/-- What an operand owns. -/
theorem own_all {t : TypeId} {x : Operand} {v : AV} (h : OK G an B0 st ρ σ a.tmps) (hs : Sub ρm ρ) (hv : opv G ρm t x = some v) :
    OK G an B0 st (apply (clr ρm x) ρ) σ a.tmps ∧ (∀ s, (ρ s).isLoc = true → apply (clr ρm x) ρ s = ρ s) ∧ ∃ g : Nat → Option Nat, (∀ i ∈ opo ρm x, ∀ aa xx, v.cells[i]? = some aa → (a.eval x).cells[i]? = some xx → OwnC st.w st.ext aa xx (g i)) ∧
      (∀ i ∈ opo ρm x, ∀ b, g i = some b → ¬ B0 b ∧ b < st.w.heap.size ∧ ¬ st.S b) ∧
      (∀ i ∈ opo ρm x, ∀ b, g i = some b → ∀ p, ¬ Has st.L (apply (clr ρm x) ρ) p b) ∧ (∀ i ∈ opo ρm x, ∀ j ∈ opo ρm x, ∀ b, g i = some b → g j = some b → i = j) := by
  cases x with
  | tmp s =>
    simp only [opv] at hv
    split at hv
    · rename_i v' ow hρ
      simp at hv; subst hv
      have hρ' := hs.val hρ (by simp)
      have hc : clr ρm (.tmp s) = [(s, .val v' [])] := by simp [clr, hρ]
      have hoo : opo ρm (.tmp s) = ow := by simp [opo, hρ]
      rw [hoo, hc]
      have hsl := h.slot s
      rw [hρ'] at hsl
      have hplace : ∀ i ∈ ow, ∀ b, st.L.γ s i = some b → Has st.L ρ (.own s i) b := fun i hi b hb => ⟨by rw [hρ']; exact hi, hb⟩
      refine ⟨h.clear (.inl ⟨_, ow, [], hρ', rfl, fun _ hi => by cases hi⟩), fun s' hl => ?_, st.L.γ s, fun i hi aa xx ha hx => hsl.2 i hi aa xx ha (by simpa [Act.eval] using hx), fun i hi b hb => h.priv _ _ (hplace i hi b hb), fun i hi b hb p hp => ?_, fun i hi j hj b hb hb' => ?_⟩
      · have : s' ≠ s := by rintro rfl; rw [hρ'] at hl; cases hl
        simp [apply, upd_other _ _ _ this]
      · obtain ⟨k1, k2⟩ := has_clear hρ' hp
        exact k2 i (h.inj _ _ _ k1 (hplace i hi b hb))
      · have := h.inj _ _ _ (hplace i hi b hb) (hplace j hj b hb')
        cases this; rfl
    · simp at hv
  | const c =>
    refine ⟨by simpa [clr, apply] using h, fun _ _ => by simp [clr, apply], fun _ => none, fun i hi aa xx ha hx => ?_, fun _ _ b hb => (by cases hb), fun _ _ b hb => (by cases hb), fun _ _ _ _ b hb => (by cases hb)⟩
    unfold opo at hi
    split at hi
    · rename_i h'; cases h'
    · rename_i h'
      injection h' with h'
      subst h'
      simp at hi; subst hi
      simp [Act.eval, Value.cells] at hx
      subst hx
      intro p n cap hxx
      cases hxx; rfl
    · cases hi
  | global g => exact ⟨by simpa [clr, apply] using h, fun _ _ => by simp [clr, apply], fun _ => none, fun i hi => (by simp [opo] at hi), fun i hi => (by simp [opo] at hi), fun i hi => (by simp [opo] at hi), fun i hi => (by simp [opo] at hi)⟩
  | func f => exact ⟨by simpa [clr, apply] using h, fun _ _ => by simp [clr, apply], fun _ => none, fun i hi => (by simp [opo] at hi), fun i hi => (by simp [opo] at hi), fun i hi => (by simp [opo] at hi), fun i hi => (by simp [opo] at hi)⟩

end Go.AI

/- The abstract machine: stores. -/
namespace Go.AI
set_option linter.unusedVariables false
set_option linter.unusedSimpArgs false
open Go

variable {G : Prg} {an : Ann} {E : EE} {B0 : Nat → Prop} {st : St} {ρ ρm : Env} {σ σ' : Sig} {ups : List (Nat × Slot)} {a : Act} {o : Oper} {tmps : Array Value}

theorem set_self (tmps : Array Value) (s : Nat) : tmps.setIfInBounds s (tmps.getD s undef) = tmps := by
  apply Array.ext_getElem?
  intro i
  rw [Array.getElem?_setIfInBounds]
  split
  · rename_i h
    subst h
    split
    · rename_i hlt; simp [Array.getD_eq_getD_getElem?, hlt]
    · rename_i hlt; rw [Array.getElem?_eq_none (by omega)]
  · rfl

/-- The end of a store. -/
theorem goal_skip {st' : St} (h : OK G an B0 st' ρ σ a.tmps) (hst : Step B0 st st') (hf : Fit an (puts o.dst (.val (.tuple []) [])))
    (hr : (execOp a.eval o).run G.P st.w = .ok .skip st'.w) : OpGoal G an B0 st a o (apply (puts o.dst (.val (.tuple []) [])) ρ) σ := by
  cases hd : o.dst with
  | none =>
    refine ⟨undef, st', .inr ⟨hr, rfl⟩, ?_, hst⟩
    simpa [puts, apply, hd, Act.put] using h
  | some d =>
    obtain ⟨h1, h2⟩ := hf (d, .val (.tuple []) []) (by simp [puts, hd])
    obtain ⟨L, hL⟩ := h.putPlain (c := undef) h1 (fit_val h2) (.tuple _ _ .nil)
    refine ⟨undef, { st' with L := L }, .inr ⟨hr, rfl⟩, ?_, ⟨hst.grow, hst.size, hst.blk, hst.os, hst.tape, hst.output⟩⟩
    simpa [puts, apply, hd, put_tmps] using hL

/-- Cells of a box are set, in a world in which its block is the new row. -/
theorem splice_own {w w' : World} {ext : Nat → Nat} {cs : List AV} {vs : List Value} {off n : Nat} {v : AV} {c : Value} {ow new : List Nat} {g0 g : Nat → Option Nat} (hcl : cs.length = vs.length) (hle : off + n ≤ cs.length)
    (hv : v.cells.length = n) (hc : c.cells.toList.length = n)
    (h0 : ∀ i ∈ ow, ∀ a x, cs[i]? = some a → vs[i]? = some x → OwnC w ext a x (g0 i)) (h1 : ∀ i ∈ new, ∀ a x, v.cells[i]? = some a → c.cells[i]? = some x → OwnC w ext a x (g i))
    (hn : ∀ i ∈ new, i < n) (hk : ∀ i ∈ ow, ∀ b, g0 i = some b → w'.heap[b]? = w.heap[b]?) (hk' : ∀ i ∈ new, ∀ b, g i = some b → w'.heap[b]? = w.heap[b]?) :
    ∀ i ∈ ow.filter (fun i => i < off || off + n ≤ i) ++ new.map (off + ·), ∀ a x, (splice cs off v.cells)[i]? = some a → (vs.take off ++ c.cells.toList ++ vs.drop (off + c.cells.toList.length))[i]? = some x →
      OwnC w' ext a x (if off ≤ i ∧ i < off + n then g (i - off) else g0 i) := by
  intro i hi aa xx ha hx
  have e : splice cs off v.cells = cs.take off ++ v.cells ++ cs.drop (off + v.cells.length) := rfl
  rw [List.mem_append] at hi
  rcases hi with hi | hi
  · obtain ⟨i1, i2⟩ := List.mem_filter.1 hi
    simp only [Bool.or_eq_true, decide_eq_true_eq] at i2
    rw [if_neg (by omega)]
    rw [get_splice (by rw [hc]; omega) (by rw [hc]; omega)] at hx
    have ha' : cs[i]? = some aa := by
      rw [e, hv] at ha
      rcases i2 with i2 | i2
      · rwa [List.append_assoc, List.getElem?_append_left (by simp; omega), List.getElem?_take_of_lt i2] at ha
      · rw [List.getElem?_append_right (by simp; omega), List.getElem?_drop] at ha
        have : off + n + (i - (cs.take off ++ v.cells).length) = i := by simp; omega
        rwa [this] at ha
    exact (h0 i i1 aa xx ha' hx).keep fun b hb => ⟨hk i i1 b hb, rfl⟩
  · obtain ⟨j, j1, rfl⟩ := List.mem_map.1 hi
    have hj := hn j j1
    rw [if_pos (by omega), show off + j - off = j from by omega]
    have ha' : v.cells[j]? = some aa := by
      rw [e, List.append_assoc, List.getElem?_append_right (by simp; omega), List.getElem?_append_left (by simp; omega)] at ha
      have : off + j - (cs.take off).length = j := by simp; omega
      rwa [this] at ha
    have hx' : c.cells[j]? = some xx := by
      rw [List.append_assoc, List.getElem?_append_right (by simp; omega), List.getElem?_append_left (by rw [hc]; simp; omega)] at hx
      have : off + j - (vs.take off).length = j := by simp; omega
      rw [this] at hx
      simpa using hx
    exact (h1 j j1 aa xx ha' hx').keep fun b hb => ⟨hk' j j1 b hb, rfl⟩

theorem sound_store {t : TypeId} {p x : Operand} (ho : o.op = .store t p x) (h : OK G E.an B0 st ρ σ a.tmps) (hs : Sub ρm ρ)
    (hc : core G E o ρm σ = some (ups, σ')) (hf : Fit E.an ups) : OpGoal G E.an B0 st a o (apply ups ρ) σ' := by
  simp only [core, ho, Option.bind_eq_bind, Option.bind_eq_some_iff] at hc
  obtain ⟨v, hv, hc⟩ := hc
  split at hc
  · simp at hc
  · rename_i hcond
    simp only [not_or, Decidable.not_not] at hcond
    obtain ⟨c1, c2, c3⟩ := hcond
    have c2 : v.okc = true := eq_true_of_ne_false c2
    have c3 : (G.P.info? t).isSome = true := eq_true_of_ne_false c3
    rw [Option.bind_eq_some_iff] at hc
    obtain ⟨q, hq, hc⟩ := hc
    obtain ⟨o1, o2⟩ := (opv_rep h rfl hs hv).one c2
    have o3 : (a.eval x).cells.toList.length = G.P.cellsOf t := by rw [← o2.length, c1]
    -- what is handed on
    obtain ⟨new, hnew⟩ : ∃ l, l = if takes E.an none x then (opo ρm x).filter (· < G.P.cellsOf t) else [] := ⟨_, rfl⟩
    obtain ⟨cl, hcl⟩ : ∃ l, l = if takes E.an none x then clr ρm x else [] := ⟨_, rfl⟩
    rw [← hnew, ← hcl] at hc
    have key : OK G E.an B0 st (apply cl ρ) σ a.tmps ∧ (∀ s, (ρ s).isLoc = true → apply cl ρ s = ρ s) ∧ ∃ g : Nat → Option Nat, (∀ i ∈ new, ∀ aa xx, v.cells[i]? = some aa → (a.eval x).cells[i]? = some xx → OwnC st.w st.ext aa xx (g i)) ∧
        (∀ i ∈ new, i < G.P.cellsOf t) ∧ (∀ i ∈ new, ∀ b, g i = some b → ¬ B0 b ∧ b < st.w.heap.size ∧ ¬ st.S b) ∧
        (∀ i ∈ new, ∀ b, g i = some b → ∀ p, ¬ Has st.L (apply cl ρ) p b) ∧ (∀ i ∈ new, ∀ j ∈ new, ∀ b, g i = some b → g j = some b → i = j) := by
      subst hnew; subst hcl
      split
      · obtain ⟨k1, k2, g, k3, k4, k5, k6⟩ := own_all h hs hv
        have hm : ∀ i ∈ (opo ρm x).filter (· < G.P.cellsOf t), i ∈ opo ρm x := fun i hi => (List.mem_filter.1 hi).1
        exact ⟨k1, k2, g, fun i hi => k3 i (hm i hi), fun i hi => by simpa using (List.mem_filter.1 hi).2, fun i hi => k4 i (hm i hi), fun i hi => k5 i (hm i hi), fun i hi j hj => k6 i (hm i hi) j (hm j hj)⟩
      · exact ⟨by simpa [apply] using h, fun _ _ => by simp [apply], fun _ => none, by simp, by simp, by simp, by simp, by simp⟩
    clear hnew hcl
    obtain ⟨h1, hkeep, g, g1, g2, g3, g4, g5⟩ := key
    have run : ∀ b off cs vs e, a.eval p = .pointer (some ⟨b, off, none⟩) → st.w.heap[b]? = some (.cells vs e (0, 0)) → Reps st.w st.ext st.ι cs vs.toList → off + G.P.cellsOf t ≤ cs.length →
        (execOp a.eval o).run G.P st.w = .ok .skip (st.w.setRow b (vs.toList.take off ++ (a.eval x).cells.toList ++ vs.toList.drop (off + (a.eval x).cells.toList.length)).toArray) := by
      intro b off cs vs e he hh hr hle
      have hl := hr.length
      have := run_storeCells_at G.P b off e (a.eval x).cells.toList 0 vs st.w hh (by rw [o3]; simp at hl; omega) o1
      have hsz := sizeOf_run (P := G.P) (t := t) st.w c3
      simp only [Nat.add_zero] at this
      have hne : (a.eval x).cells.size = G.P.cellsOf t := by simpa using o3
      simp [execOp, ho, he, Instr.storeAt, Instr.sureAddr, storeVar, hsz, hne]
      rw [this]; simp [hne]
    cases q with
    | im cs => simp at hc
    | loc s off =>
      obtain ⟨he, hl0⟩ := ptrOf_loc h rfl hs hq
      dsimp only at hc
      split at hc
      · rename_i cs ow hρ
        have hρ' := hs.val hρ (by simp)
        split at hc
        · rename_i hle
          simp at hc; obtain ⟨rfl, rfl⟩ := hc
          have hρ1 : apply cl ρ s = .loc cs ow := by rw [hkeep s hl0, hρ']
          have hsl := h1.slot s
          rw [hρ1] at hsl
          obtain ⟨k1, k2, vs, e, k3, k4, k5, k6⟩ := hsl
          have hrun := run _ _ _ _ _ he k3 k4 hle
          obtain ⟨row, hrow⟩ : ∃ row, row = (vs.toList.take off ++ (a.eval x).cells.toList ++ vs.toList.drop (off + (a.eval x).cells.toList.length)).toArray := ⟨_, rfl⟩
          have hrowl : row.toList = vs.toList.take off ++ (a.eval x).cells.toList ++ vs.toList.drop (off + (a.eval x).cells.toList.length) := by rw [hrow]
          rw [← hrow] at hrun
          have hheap : (st.w.setRow (st.L.β s) row).heap[st.L.β s]? = some (.cells row e (0, 0)) := setRow_heap _ _ _ _ _ _ k3
          have ht := Turn.setRow st.w (st.L.β s) row
          have hg : Grow st.w st.ext st.ι (st.w.setRow (st.L.β s) row) st.ext st.ι := ht.grow (fun _ _ => rfl) (Nat.le_refl _) fun oo v ho _ => by rw [k2] at ho; omega
          have hbox : Has st.L (apply cl ρ) (.box s) (st.L.β s) := ⟨by rw [hρ1]; rfl, rfl⟩
          have hpb := h1.priv _ _ hbox
          let ow2 := ow.filter (fun i => i < off || off + G.P.cellsOf t ≤ i) ++ new.map (off + ·)
          let γ2 : Nat → Option Nat := fun i => if off ≤ i ∧ i < off + G.P.cellsOf t then g (i - off) else st.L.γ s i
          have hmem : ∀ i ∈ ow2, ∀ b, γ2 i = some b → (i ∈ ow ∧ st.L.γ s i = some b ∧ ¬ (off ≤ i ∧ i < off + G.P.cellsOf t)) ∨ (∃ j ∈ new, i = off + j ∧ g j = some b) := by
            intro i hi b hb
            rcases List.mem_append.1 hi with hi | hi
            · obtain ⟨i1, i2⟩ := List.mem_filter.1 hi
              simp only [Bool.or_eq_true, decide_eq_true_eq] at i2
              have hn : ¬ (off ≤ i ∧ i < off + G.P.cellsOf t) := by omega
              exact .inl ⟨i1, by simpa [γ2, hn] using hb, hn⟩
            · obtain ⟨j, j1, rfl⟩ := List.mem_map.1 hi
              have := g2 j j1
              refine .inr ⟨j, j1, rfl, ?_⟩
              simp only [γ2] at hb
              rwa [if_pos (by omega), show off + j - off = j from by omega] at hb
          have hown : ∀ i ∈ ow, ∀ b, st.L.γ s i = some b → Has st.L (apply cl ρ) (.own s i) b := fun i hi b hb => ⟨by rw [hρ1]; exact hi, hb⟩
          have hneb : ∀ i ∈ ow, ∀ b, st.L.γ s i = some b → b ≠ st.L.β s := by
            intro i hi b hb e
            subst e
            have := h1.inj _ _ _ (hown i hi _ hb) hbox
            cases this
          let st' : St := { st with w := st.w.setRow (st.L.β s) row, L := st.L.setγ s γ2 }
          obtain ⟨f1, f2⟩ := hf (s, .loc (splice cs off v.cells) ow2) (by simp [ow2])
          have hok : OK G E.an B0 st' (upd (apply cl ρ) s (.loc (splice cs off v.cells) ow2)) σ (a.tmps.setIfInBounds s (a.tmps.getD s undef)) := by
            refine h1.relay (st' := st') f1 f2 (fun u hu => ?_) ?_ (fun _ _ _ _ => rfl) (fun s' off' hs' => by cases hs') (fun u n _ ht => by obtain ⟨sz, es, h4, _⟩ := h1.larr u s n ht; rw [hρ1] at h4; cases h4) (fun s' n hs' => by cases hs') (fun u hu => rfl) (fun u hu i => by simp [st', Lay.setγ, hu]) (fun pl b hp hh => ?_) (fun pl b hp hh => ?_)
              (fun x hx => by simpa [st'] using h1.base x hx) h1.out (h1.sr.turn hg ht (fun _ _ => rfl) hpb.2.1 hpb.2.2)
            · refine (h1.slotTurn hg ht (fun _ _ => rfl) (fun pl hpl hh => ?_)).lay (fun _ => rfl) (fun _ _ _ => rfl) (fun i _ => by simp [st', Lay.setγ, hu])
              have := h1.inj _ _ _ hh hbox
              subst this
              exact hu hpl.symm
            · refine ⟨k1, k2, row, e, hheap, ?_, ?_, ?_⟩
              · rw [hrowl]; exact (k4.mono hg).splice (o2.mono hg) off
              · intro y hy
                rw [hrowl] at hy
                rcases mem_splice hy with hy | hy
                · exact k5 y hy
                · exact o1 y hy
              · intro i hi aa xx ha hx
                have := splice_own (w := st.w) (w' := st.w.setRow (st.L.β s) row) (ext := st.ext) (vs := vs.toList) (ow := ow) (new := new) (g0 := st.L.γ s) (g := g) k4.length hle c1 o3 (fun i hi a x ha hx => k6 i hi a x ha (by simpa using hx)) g1 g2
                  (fun i hi b hb => ht.blk b (hneb i hi b hb)) (fun i hi b hb => ht.blk b (by rintro rfl; exact g4 i hi _ hb _ hbox)) i hi aa xx ha (by rw [← hrowl]; simpa using hx)
                have hγ : st'.L.γ s i = γ2 i := by simp [st', Lay.setγ]
                rw [hγ]; exact this
            · have case1 : ∀ i ∈ ow2, ∀ b, γ2 i = some b → ¬ B0 b ∧ b < st.w.heap.size ∧ ¬ st.S b ∧ (∀ q, q.slot ≠ s → ¬ Has st.L (apply cl ρ) q b) ∧ b ≠ st.L.β s := by
                intro i hi b hb
                rcases hmem i hi b hb with ⟨i1, i2, _⟩ | ⟨j, j1, rfl, j2⟩
                · have := h1.priv _ _ (hown i i1 b i2)
                  refine ⟨this.1, this.2.1, this.2.2, fun q hq hh' => ?_, hneb i i1 b i2⟩
                  have := h1.inj _ _ _ hh' (hown i i1 b i2)
                  subst this; exact hq rfl
                · have := g3 j j1 b j2
                  refine ⟨this.1, this.2.1, this.2.2, fun q hq hh' => g4 j j1 b j2 q hh', ?_⟩
                  rintro rfl; exact g4 j j1 _ j2 _ hbox
              have case2 : ∀ i ∈ ow2, ∀ j ∈ ow2, ∀ b, γ2 i = some b → γ2 j = some b → i = j := by
                intro i hi j hj b hb hb'
                rcases hmem i hi b hb with ⟨i1, i2, _⟩ | ⟨i', i1, rfl, i2⟩ <;> rcases hmem j hj b hb' with ⟨j1, j2, _⟩ | ⟨j', j1, rfl, j2⟩
                · have := h1.inj _ _ _ (hown i i1 b i2) (hown j j1 b j2)
                  cases this; rfl
                · exact absurd (hown i i1 b i2) (g4 j' j1 b j2 _)
                · exact absurd (hown j j1 b j2) (g4 i' i1 b i2 _)
                · rw [g5 i' i1 j' j1 b i2 j2]
              have has : ∀ (pl : Place) (b : Nat), pl.slot = s → Has st'.L (upd (apply cl ρ) s (.loc (splice cs off v.cells) ow2)) pl b → (pl = .box s ∧ b = st.L.β s) ∨ ∃ i ∈ ow2, pl = .own s i ∧ γ2 i = some b := by
                intro pl b hp hh
                cases pl with
                | box t' => simp only [Place.slot] at hp; subst hp; exact .inl ⟨rfl, hh.2.symm⟩
                | own t' i =>
                  simp only [Place.slot] at hp; subst hp
                  have h2 := hh.2
                  have h3 := hh.1
                  rw [upd_same] at h3
                  simp only [st', Lay.setγ, if_true] at h2
                  exact .inr ⟨i, h3, rfl, h2⟩
              rcases has pl b hp hh with ⟨rfl, rfl⟩ | ⟨i, hi, rfl, hb⟩
              · refine ⟨hpb.1, by simpa [st'] using hpb.2.1, hpb.2.2, fun q hq hh' => ?_, fun q hq hh' => ?_⟩
                · have := h1.inj _ _ _ hh' hbox
                  subst this; exact hq rfl
                · rcases has q _ hq hh' with ⟨rfl, _⟩ | ⟨j, hj, rfl, hb'⟩
                  · rfl
                  · exact absurd rfl (case1 j hj _ hb').2.2.2.2
              · obtain ⟨q1, q2, q3, q4, q5⟩ := case1 i hi b hb
                refine ⟨q1, by simpa [st'] using q2, q3, q4, fun q hq hh' => ?_⟩
                rcases has q _ hq hh' with ⟨rfl, e⟩ | ⟨j, hj, rfl, hb'⟩
                · exact absurd e q5
                · rw [case2 i hi j hj b hb hb']
            · have := h1.priv _ _ hh
              exact ⟨by simpa [st'] using this.2.1, this.2.2⟩
          rw [set_self] at hok
          have hst : Step B0 st st' := Step.turn hg ht (fun _ _ => rfl) hpb.1
          have := goal_skip (o := o) hok hst (fun u hu => hf u (by simp; right; right; exact hu)) hrun
          have e2 : apply (cl ++ (s, Slot.loc (splice cs off v.cells) ow2) :: puts o.dst (.val (.tuple []) [])) ρ = apply (puts o.dst (.val (.tuple []) [])) (upd (apply cl ρ) s (.loc (splice cs off v.cells) ow2)) := by
            rw [apply_append]; rfl
          rw [e2]
          exact this
        · simp at hc
      · simp at hc
    | sh id off =>
      obtain ⟨b, hb, he⟩ := rep_ptr_inv (ptrOf_sh h rfl hs hq)
      dsimp only at hc
      split at hc
      · rename_i cs ow hσ
        split at hc
        · rename_i hle
          simp at hc; obtain ⟨rfl, rfl⟩ := hc
          obtain ⟨k2, vs, e, k3, k4, k5, k6⟩ := h1.sr.obj id _ b hσ hb
          have hrun := run _ _ _ _ _ he k3 k4 hle.1
          obtain ⟨row, hrow⟩ : ∃ row, row = (vs.toList.take off ++ (a.eval x).cells.toList ++ vs.toList.drop (off + (a.eval x).cells.toList.length)).toArray := ⟨_, rfl⟩
          have hrowl : row.toList = vs.toList.take off ++ (a.eval x).cells.toList ++ vs.toList.drop (off + (a.eval x).cells.toList.length) := by rw [hrow]
          rw [← hrow] at hrun
          have hheap : (st.w.setRow b row).heap[b]? = some (.cells row e (0, 0)) := setRow_heap _ _ _ _ _ _ k3
          have ht := Turn.setRow st.w b row
          have hbι : b ∈ st.ι := List.mem_of_getElem? hb
          let γ2 : Nat → Option Nat := fun i => if off ≤ i ∧ i < off + G.P.cellsOf t then g (i - off) else st.SL id i
          have hmem : ∀ i ∈ ow.filter (fun i => i < off || off + G.P.cellsOf t ≤ i) ++ new.map (off + ·), ∀ b, γ2 i = some b → (i ∈ ow ∧ st.SL id i = some b) ∨ (∃ j ∈ new, i = off + j ∧ g j = some b) := by
            intro i hi b hb
            rcases List.mem_append.1 hi with hi | hi
            · obtain ⟨i1, i2⟩ := List.mem_filter.1 hi
              simp only [Bool.or_eq_true, decide_eq_true_eq] at i2
              have hn : ¬ (off ≤ i ∧ i < off + G.P.cellsOf t) := by omega
              exact .inl ⟨i1, by simpa [γ2, hn] using hb⟩
            · obtain ⟨j, j1, rfl⟩ := List.mem_map.1 hi
              have := g2 j j1
              refine .inr ⟨j, j1, rfl, ?_⟩
              simp only [γ2] at hb
              rwa [if_pos (by omega), show off + j - off = j from by omega] at hb
          obtain ⟨hok, hst⟩ := h1.setBox (S' := fun y => st.S y ∨ ∃ j ∈ new, g j = some y) (cs' := splice cs off v.cells) (ow' := ow.filter (fun i => i < off || off + G.P.cellsOf t ≤ i) ++ new.map (off + ·)) (g' := γ2) hσ hb ht
            (fun ι' hg => by
              refine ⟨k2, row, e, hheap, ?_, ?_, ?_⟩
              · rw [hrowl]; exact (k4.mono hg).splice (o2.mono hg) off
              · intro y hy
                rw [hrowl] at hy
                rcases mem_splice hy with hy | hy
                · exact k5 y hy
                · exact o1 y hy
              · intro i hi aa xx ha hx
                exact splice_own (w := st.w) (w' := st.w.setRow b row) (ext := st.ext) (vs := vs.toList) (ow := ow) (new := new) (g0 := st.SL id) (g := g) k4.length hle.1 c1 o3 (fun i hi a x ha hx => k6 i hi a x ha (by simpa using hx)) g1 g2
                  (fun i hi y hy => ht.blk y (by rintro rfl; exact (h1.sr.ownS id _ i _ hσ hi hy).2 hbι)) (fun i hi y hy => ht.blk y (by rintro rfl; exact (g3 i hi _ hy).2.2 (h1.sr.inS _ hbι))) i hi aa xx ha (by rw [← hrowl]; simpa using hx))
            (fun y hy => .inl (h1.sr.inS y hy))
            (fun id' o' i y _ ho' hi' hy => .inl (h1.sr.ownS id' o' i y ho' hi' hy).1)
            (fun y hy => by
              rcases hy with hy | ⟨j, j1, j2⟩
              · exact ⟨h1.sr.small y hy, h1.out y hy⟩
              · have := g3 j j1 y j2; exact ⟨this.2.1, this.1⟩)
            (fun pl y hp hy => by
              rcases hy with hy | ⟨j, j1, j2⟩
              · exact (h1.priv pl y hp).2.2 hy
              · exact g4 j j1 y j2 pl hp)
            (fun i hi y hy => by
              rcases hmem i hi y hy with ⟨i1, i2⟩ | ⟨j, j1, rfl, j2⟩
              · obtain ⟨q1, q2⟩ := h1.sr.ownS id _ i y hσ i1 i2
                refine ⟨.inl q1, q2, fun id' o' i' hi' ho' hi'' hy' => hi' (h1.sr.inj id' o' i' id _ i y ho' hi'' hy' hσ i1 i2).1, fun j hj hy' => ?_⟩
                rcases hmem j hj y hy' with ⟨j1, j2⟩ | ⟨j', j1, rfl, j2⟩
                · exact (h1.sr.inj id _ i id _ j y hσ i1 i2 hσ j1 j2).2
                · exact absurd q1 (g3 j' j1 y j2).2.2
              · have q := g3 j j1 y j2
                refine ⟨.inr ⟨j, j1, j2⟩, fun hy' => q.2.2 (h1.sr.inS y hy'), fun id' o' i' hi' ho' hi'' hy' => q.2.2 (h1.sr.ownS id' o' i' y ho' hi'' hy').1, fun j' hj hy' => ?_⟩
                rcases hmem j' hj y hy' with ⟨k1, k2⟩ | ⟨j'', k1, rfl, k2⟩
                · exact absurd (h1.sr.ownS id _ j' y hσ k1 k2).1 q.2.2
                · rw [g5 j j1 j'' k1 y j2 k2])
          have := goal_skip (o := o) hok hst (fun u hu => hf u (by simp; right; exact hu)) hrun
          rw [apply_append]
          exact this
        · simp at hc
      · simp at hc

end Go.AI

/- The abstract machine: slices in private rows. -/
namespace Go.AI
set_option linter.unusedVariables false
set_option linter.unusedSimpArgs false
open Go

variable {G : Prg} {an : Ann} {E : EE} {B0 : Nat → Prop} {st : St} {ρ ρm : Env} {σ σ' : Sig} {ups : List (Nat × Slot)} {a : Act} {o : Oper} {tmps : Array Value} {ops : Array Oper}

theorem arrOf_spec (hs : Sub ρm ρ) {x : Operand} {s sz : Nat} {es : List AV} (h : arrOf ρm x = some (s, sz, es)) : x = .tmp s ∧ ρ s = .arr sz es := by
  unfold arrOf at h
  split at h
  · split at h
    · rename_i hρ
      simp at h; obtain ⟨rfl, rfl, rfl⟩ := h
      exact ⟨rfl, hs.val hρ (by simp)⟩
    · simp at h
  · simp at h

theorem larrOf_spec (hs : Sub ρm ρ) {x : Operand} {s n : Nat} (h : larrOf ρm x = some (s, n)) : ∃ t, x = .tmp t ∧ ρ t = .larr s n := by
  unfold larrOf at h
  split at h
  · split at h
    · rename_i hρ
      simp at h; obtain ⟨rfl, rfl⟩ := h
      exact ⟨_, rfl, hs.val hρ (by simp)⟩
    · simp at h
  · simp at h

/-- An alias of a private row is made. -/
theorem goal_larr {s n sz : Nat} {es : List AV} (h : OK G an B0 st ρ σ a.tmps) (hf : Fit an (puts o.dst (.larr s n))) (hl : ρ s = .arr sz es) (hn : n ≤ es.length)
    (hr : (execOp a.eval o).run G.P st.w = .ok (.value (.slice (some ⟨st.L.β s, 0, none⟩) n (st.L.κ s))) st.w) : OpGoal G an B0 st a o (apply (puts o.dst (.larr s n)) ρ) σ := by
  cases hd : o.dst with
  | none =>
    refine ⟨_, st, .inl hr, ?_, Step.refl _ _⟩
    simpa [puts, apply, hd, Act.put] using h
  | some d =>
    obtain ⟨h1, h2⟩ := hf (d, .larr s n) (by simp [puts, hd])
    have hdl : an.loc.contains d = false := by simp only [fitsSlot, Bool.and_eq_true] at h2; simpa using h2.2
    have hnl : (ρ d).isLoc = false := by
      by_cases hn : ρ d = .none
      · rw [hn]; rfl
      · rcases fits_loc (h.fits d hn) with k | k
        · rw [k]; exact hdl
        · exact absurd k hn
    have hsd : s ≠ d := by rintro rfl; rw [hl] at hnl; cases hnl
    refine ⟨_, st, .inl hr, ?_, Step.refl _ _⟩
    simp only [puts, apply, hd, put_tmps, List.foldl]
    refine h.relay (st' := st) h1 h2 (fun t _ => h.slot t) rfl (fun t off _ ht => ?_) (fun _ _ e => by cases e) (fun t m _ ht => ?_) (fun s' m e => by cases e; exact ⟨hsd, sz, es, hl, hn⟩) (fun _ _ => rfl) (fun _ _ _ => rfl)
      (fun p b hp hh => ?_) (fun p b _ hh => (h.priv p b hh).2) h.base h.out h.sr
    · have := h.lptr t d off ht
      rw [hnl] at this; cases this
    · obtain ⟨sz', es', h4, _⟩ := h.larr t d m ht
      rw [h4] at hnl; cases hnl
    · exfalso
      cases p with
      | box t => simp only [Place.slot] at hp; subst hp; simp [Has, upd_same, Slot.isLoc] at hh
      | own t i => simp only [Place.slot] at hp; subst hp; simp [Has, upd_same, Slot.ows] at hh

/-- What stands in a private row. -/
theorem arr_slot (h : OK G an B0 st ρ σ tmps) {s sz : Nat} {es : List AV} (hs : ρ s = .arr sz es) :
    tmps.getD s undef = .slice (some ⟨st.L.β s, 0, none⟩) es.length (st.L.κ s) ∧ es.length ≤ st.L.κ s ∧ st.ext (st.L.β s) = 0 ∧ (∀ e ∈ es, e.cells.length = sz) ∧
      ∃ vs e, st.w.heap[st.L.β s]? = some (.cells vs e (0, 0)) ∧ st.L.κ s * sz ≤ vs.size ∧ Reps st.w st.ext st.ι (es.flatMap AV.cells) (vs.toList.take (es.length * sz)) ∧ ∀ x ∈ vs.toList, x.oneCell' = true := by
  have := h.slot s
  rw [hs] at this
  exact this

theorem larr_slot (h : OK G an B0 st ρ σ tmps) {t s n : Nat} (hs : ρ t = .larr s n) : tmps.getD t undef = .slice (some ⟨st.L.β s, 0, none⟩) n (st.L.κ s) ∧ ∃ sz es, ρ s = .arr sz es ∧ n ≤ es.length := by
  have := h.slot t
  rw [hs] at this
  exact ⟨this, h.larr t s n hs⟩

theorem sound_arr_move {x : Operand} (ho : o.op = .move x ∨ o.op = .assign x) (h : OK G E.an B0 st ρ σ a.tmps) (hs : Sub ρm ρ) (hm : ∀ t ∈ rdOf E.an ops o, ρm t = ρ t) (hc : arrOp G E o ρm = some (some ups)) (hf : Fit E.an ups) :
    OpGoal G E.an B0 st a o (apply ups ρ) σ := by
  have hrun : (execOp a.eval o).run G.P st.w = .ok (.value (a.eval x)) st.w := by rcases ho with ho | ho <;> simp [execOp, ho]
  have hc' : (match arrOf ρm x with
    | some (s, sz, es) => match o.dst with
      | some d => if E.an.loc.contains d then (if s ≠ d ∧ noInto E.an ρm d = true ∧ noInto E.an ρm s = true then some (some [(s, .none), (d, .arr sz es)]) else some none) else some (some [(d, .larr s es.length)])
      | none => some none
    | none => match larrOf ρm x with
      | some (s, h) => some (some (puts o.dst (.larr s h)))
      | none => none) = some (some ups) := by
    rcases ho with ho | ho <;> (simp only [arrOp, ho] at hc; exact hc)
  split at hc'
  · rename_i s sz es harr
    obtain ⟨rfl, hρ⟩ := arrOf_spec hs harr
    obtain ⟨k1, k2, k3, k4, vs, e, k5, k6, k7, k8⟩ := arr_slot h hρ
    split at hc'
    · rename_i d hd
      split at hc'
      · rename_i hdl
        split at hc'
        · rename_i hcond
          obtain ⟨c1, c2, c3⟩ := hcond
          simp at hc'; subst hc'
          have hmd : ∀ q, (q = d ∨ q = s) → ∀ p ∈ E.an.into, p.2 = q → ρm p.1 = ρ p.1 := by
            intro q hq p hp hpq
            refine hm p.1 ?_
            unfold rdOf
            rw [List.mem_append, List.mem_append]
            refine .inl (.inr ?_)
            have hdl' : E.an.loc.contains d = true := hdl
            rcases ho with ho | ho <;> (simp only [ho, hd, hdl', if_true, List.mem_map, List.mem_filter]; refine ⟨p, ⟨hp, ?_⟩, rfl⟩; rcases hq with rfl | rfl <;> simp [hpq])
          have n1 := noInto_spec h (hmd d (.inl rfl)) c2
          have n2 := noInto_spec h (hmd s (.inr rfl)) c3
          obtain ⟨f1, f2⟩ := hf (d, .arr sz es) (by simp)
          have hbox : Has st.L ρ (.box s) (st.L.β s) := ⟨by rw [hρ]; rfl, rfl⟩
          have hpb := h.priv _ _ hbox
          -- the row leaves its slot
          have h0 : OK G E.an B0 st (upd ρ s .none) σ a.tmps := by
            have hhas : ∀ p b, Has st.L (upd ρ s .none) p b → Has st.L ρ p b ∧ p.slot ≠ s := by
              intro p b hp
              cases p with
              | box t =>
                by_cases ht : t = s
                · subst ht; simp [Has, upd_same, Slot.isLoc] at hp
                · exact ⟨by simpa only [Has, upd_other _ _ _ ht] using hp, ht⟩
              | own t i =>
                by_cases ht : t = s
                · subst ht; simp [Has, upd_same, Slot.ows] at hp
                · exact ⟨by simpa only [Has, upd_other _ _ _ ht] using hp, ht⟩
            refine ⟨h.size, fun t => ?_, fun t => ?_, fun t s' off ht => ?_, fun p b hp => h.priv p b (hhas p b hp).1, fun p q b hp hq => h.inj p q b (hhas p b hp).1 (hhas q b hq).1, h.base, h.out, h.sr, fun t s' n ht => ?_⟩
            · by_cases ht : t = s
              · subst ht; rw [upd_same]; trivial
              · rw [upd_other _ _ _ ht]; exact h.slot t
            · by_cases ht : t = s
              · subst ht; rw [upd_same]; intro h'; exact absurd rfl h'
              · rw [upd_other _ _ _ ht]; exact h.fits t
            · have hne : t ≠ s := by rintro rfl; rw [upd_same] at ht; cases ht
              rw [upd_other _ _ _ hne] at ht
              have hs' : s' ≠ s := by rintro rfl; exact n2.1 t off ht
              rw [upd_other _ _ _ hs']; exact h.lptr t s' off ht
            · have hne : t ≠ s := by rintro rfl; rw [upd_same] at ht; cases ht
              rw [upd_other _ _ _ hne] at ht
              have hs' : s' ≠ s := by rintro rfl; exact n2.2 t n ht
              rw [upd_other _ _ _ hs']; exact h.larr t s' n ht
          have hno : ∀ p b, Has st.L (upd ρ s .none) p b → b ≠ st.L.β s := by
            intro p b hp hb
            subst hb
            have hp' : Has st.L ρ p (st.L.β s) ∧ p.slot ≠ s := by
              cases p with
              | box t =>
                by_cases ht : t = s
                · subst ht; simp [Has, upd_same, Slot.isLoc] at hp
                · exact ⟨by simpa only [Has, upd_other _ _ _ ht] using hp, ht⟩
              | own t i =>
                by_cases ht : t = s
                · subst ht; simp [Has, upd_same, Slot.ows] at hp
                · exact ⟨by simpa only [Has, upd_other _ _ _ ht] using hp, ht⟩
            have := h.inj _ _ _ hp'.1 hbox
            subst this
            exact hp'.2 rfl
          let st' : St := { st with L := { β := fun t => if t = d then st.L.β s else st.L.β t, κ := fun t => if t = d then st.L.κ s else st.L.κ t, γ := fun t i => if t = d then none else st.L.γ t i } }
          have heval : a.eval (.tmp s) = .slice (some ⟨st.L.β s, 0, none⟩) es.length (st.L.κ s) := by simpa [Act.eval] using k1
          have hd0 : ∀ (t : Nat), t ≠ d → (∀ off, upd ρ s .none t ≠ .lptr d off) ∧ ∀ n, upd ρ s .none t ≠ .larr d n := by
            intro t _
            by_cases ht : t = s
            · subst ht; rw [upd_same]; exact ⟨by simp, by simp⟩
            · rw [upd_other _ _ _ ht]; exact ⟨n1.1 t, n1.2 t⟩
          refine ⟨a.eval (.tmp s), st', .inl hrun, ?_, ⟨Grow.refl _ _ _, Nat.le_refl _, fun _ _ => ⟨rfl, rfl⟩, rfl, rfl, rfl⟩⟩
          have e1 : apply [(s, Slot.none), (d, .arr sz es)] ρ = upd (upd ρ s .none) d (.arr sz es) := rfl
          rw [e1, hd, put_tmps]
          refine h0.relay (st' := st') f1 f2 (fun t ht => ?_) ?_ (fun t off ht hl => absurd hl ((hd0 t ht).1 off)) (fun _ _ e => by cases e) (fun t n ht hl => absurd hl ((hd0 t ht).2 n)) (fun _ _ e => by cases e)
            (fun t ht => by simp [st', ht]) (fun t ht i => by simp [st', ht]) (fun p b hp hh => ?_) (fun p b _ hh => (h0.priv p b hh).2) h.base h.out h.sr
          · refine (h0.slot t).lay (fun _ => by simp [st', ht]) (fun s' off e => ?_) (fun i _ => by simp [st', ht]) (fun _ => by simp [st', ht]) (fun s' n e => ?_)
            · have : s' ≠ d := by rintro rfl; exact (hd0 t ht).1 off e
              simp [st', this]
            · have : s' ≠ d := by rintro rfl; exact (hd0 t ht).2 n e
              simp [st', this]
          · have b1 : st'.L.β d = st.L.β s := by simp [st']
            have b2 : st'.L.κ d = st.L.κ s := by simp [st']
            refine ⟨by rw [b1, b2]; exact heval, by rw [b2]; exact k2, by rw [b1]; exact k3, k4, vs, e, by rw [b1]; exact k5, by rw [b2]; exact k6, k7, k8⟩
          · have hpp : p = .box d ∧ b = st.L.β s := by
              cases p with
              | box t => simp only [Place.slot] at hp; subst hp; have := hh.2; simp [st'] at this; exact ⟨rfl, this.symm⟩
              | own t i => simp only [Place.slot] at hp; subst hp; have := hh.2; simp [st'] at this
            obtain ⟨rfl, rfl⟩ := hpp
            refine ⟨hpb.1, hpb.2.1, hpb.2.2, fun q hq hh' => hno q _ hh' rfl, fun q hq hh' => ?_⟩
            cases q with
            | box t => simp only [Place.slot] at hq; subst hq; rfl
            | own t i => simp only [Place.slot] at hq; subst hq; have := hh'.2; simp [st'] at this
        · simp at hc'
      · simp at hc'; subst hc'
        have hputs : [(d, Slot.larr s es.length)] = puts o.dst (.larr s es.length) := by rw [hd]; rfl
        rw [hputs] at hf ⊢
        exact goal_larr h hf hρ (Nat.le_refl _) (by rw [hrun]; simp only [Act.eval]; rw [k1])
    · simp at hc'
  · split at hc'
    · rename_i s n hl
      simp at hc'; subst hc'
      obtain ⟨t, rfl, hρ⟩ := larrOf_spec hs hl
      obtain ⟨k1, sz, es, k2, k3⟩ := larr_slot h hρ
      exact goal_larr h hf k2 k3 (by rw [hrun]; simp only [Act.eval]; rw [k1])
    · simp at hc'

end Go.AI

/- The abstract machine: slices in private rows: length, elements, cuts. -/
namespace Go.AI
set_option linter.unusedVariables false
set_option linter.unusedSimpArgs false
open Go

variable {G : Prg} {an : Ann} {E : EE} {B0 : Nat → Prop} {st : St} {ρ ρm : Env} {σ σ' : Sig} {ups : List (Nat × Slot)} {a : Act} {o : Oper} {tmps : Array Value} {ops : Array Oper}

theorem sound_arr_len {args : Array Operand} {tys : Array TypeId} (ho : o.op = .call { callee := .builtin .len, args := args, argTypes := tys }) (h : OK G E.an B0 st ρ σ a.tmps) (hs : Sub ρm ρ) (hc : arrOp G E o ρm = some (some ups)) (hf : Fit E.an ups) :
    OpGoal G E.an B0 st a o (apply ups ρ) σ := by
  simp only [arrOp, ho] at hc
  split at hc
  · rename_i x hx
    split at hc
    · rename_i s n hl
      obtain ⟨t, rfl, hρ⟩ := larrOf_spec hs hl
      obtain ⟨k1, sz, es, k2, k3⟩ := larr_slot h hρ
      split at hc
      · rename_i e hu
        rw [Option.bind_eq_some_iff] at hu
        obtain ⟨ty, hty, hu⟩ := hu
        simp at hc; subst hc
        have he : a.eval (.tmp t) = .slice (some ⟨st.L.β s, 0, none⟩) n (st.L.κ s) := k1
        have hx' : (args.map a.eval)[0]? = some (a.eval (.tmp t)) := by rw [Array.getElem?_map, hx]; rfl
        rw [he] at hx'
        refine goal_plain h hf (c := .int .i64 n) ?_ (.int _ _)
        simp only [execOp, ho, resolve, invoke, builtin, Sem.run_bind, Sem.run_pure, Result.andThen_ok, Deferred.target, Builtin.len_, hty, hx', run_underlying hu]
        rfl
      · simp at hc
    · simp at hc
  · simp at hc

theorem sound_arr_indexAddr {t : TypeId} {x i : Operand} (ho : o.op = .indexAddr t x i) (h : OK G E.an B0 st ρ σ a.tmps) (hs : Sub ρm ρ) (hc : arrOp G E o ρm = some (some ups)) (hf : Fit E.an ups) :
    OpGoal G E.an B0 st a o (apply ups ρ) σ := by
  simp only [arrOp, ho] at hc
  split at hc
  · rename_i s n hl
    obtain ⟨tt, rfl, hρ⟩ := larrOf_spec hs hl
    obtain ⟨k1, sz, es, k2, k3⟩ := larr_slot h hρ
    simp only [Option.some.injEq, Option.bind_eq_bind, Option.bind_eq_some_iff] at hc
    obtain ⟨iv, hiv, hc⟩ := hc
    split at hc
    · rename_i sz' es' e k m hm hu
      have hm' := hs.val hm (by simp)
      rw [k2] at hm'
      cases hm'
      split at hc
      · rename_i hcond
        obtain ⟨c1, c2, c3, c4⟩ := hcond
        simp at hc; subst hc
        have hi := rep_int_inv (opv_rep h rfl hs hiv)
        have he : a.eval (.tmp tt) = .slice (some ⟨st.L.β s, 0, none⟩) n (st.L.κ s) := k1
        refine goal_lptr h hf (by rw [k2]; rfl) ?_
        have hl : m < (n : Int) := by omega
        have hinfo := info_of_cells (P := G.P) (t := e) (by omega)
        simp [execOp, ho, he, hi, Instr.indexAt, asIntOf, run_underlying hu, c1, hl, sizeOf_run _ hinfo, addr_add, c3]
      · simp at hc
    · simp at hc
  · simp at hc

theorem sound_arr_slice {t : TypeId} {x : Operand} {lo hi mx : Option Operand} (ho : o.op = .slice t x lo hi mx) (h : OK G E.an B0 st ρ σ a.tmps) (hs : Sub ρm ρ) (hc : arrOp G E o ρm = some (some ups)) (hf : Fit E.an ups) :
    OpGoal G E.an B0 st a o (apply ups ρ) σ := by
  simp only [arrOp, ho] at hc
  split at hc
  · rename_i s n hl
    obtain ⟨tt, rfl, hρ⟩ := larrOf_spec hs hl
    obtain ⟨k1, sz, es, k2, k3⟩ := larr_slot h hρ
    simp only [Option.some.injEq, Option.bind_eq_bind] at hc
    split at hc
    · rename_i sz' es' e y hm hu
      have hm' := hs.val hm (by simp)
      rw [k2] at hm'
      cases hm'
      rw [Option.bind_eq_some_iff] at hc
      obtain ⟨iv, hiv, hc⟩ := hc
      split at hc
      · rename_i k m
        split at hc
        · rename_i hcond
          obtain ⟨c1, c2, c3, c4⟩ := hcond
          simp at hc; subst hc
          have hi := rep_int_inv (opv_rep h rfl hs hiv)
          have he : a.eval (.tmp tt) = .slice (some ⟨st.L.β s, 0, none⟩) n (st.L.κ s) := k1
          have hcap := (arr_slot h k2).2.1
          have hinfo := info_of_cells (P := G.P) (t := e) (by omega)
          have hsize : (sizeOf e).run G.P st.w = .ok sz st.w := by rw [c3]; exact sizeOf_run _ hinfo
          have hb : (Instr.sliceBounds true n (st.L.κ s) none (some (.int k m)) none).run G.P st.w = .ok (0, m.toNat, st.L.κ s) st.w := by
            simp [Instr.sliceBounds, bound_run c1 (show m.toNat ≤ st.L.κ s by omega)]
          refine goal_larr h hf k2 (Nat.le_trans c2 k3) ?_
          simp [execOp, ho, he, hi, Instr.sliceAt, Instr.slice, run_underlying hu, hb, hsize, addr_add]
        · simp at hc
      · simp at hc
    · simp at hc
  · simp at hc

theorem sound_arr_load {t : TypeId} {x : Operand} (ho : o.op = .load t x) (h : OK G E.an B0 st ρ σ a.tmps) (hs : Sub ρm ρ) (hc : arrOp G E o ρm = some (some ups)) (hf : Fit E.an ups) :
    OpGoal G E.an B0 st a o (apply ups ρ) σ := by
  simp only [arrOp, ho] at hc
  split at hc
  · rename_i s off hp
    split at hc
    · rename_i sz es hm
      have hm' := hs.val hm (by simp)
      obtain ⟨he, hl⟩ := ptrOf_loc h rfl hs hp
      obtain ⟨k1, k2, k3, k4, vs, e, k5, k6, k7, k8⟩ := arr_slot h hm'
      simp only [Option.some.injEq] at hc
      split at hc
      · simp at hc
      · rename_i hty
        have hty : tyOk G.P t = true := eq_true_of_ne_false hty
        rw [Option.map_eq_some_iff] at hc
        obtain ⟨v, hv, rfl⟩ := hc
        obtain ⟨c, hl, hrep, _⟩ := loadVar_run (P := G.P) st.w (st.L.β s) 0 hty k7 (fun y hy => k8 y (List.mem_of_mem_take hy)) (fun i y hy => by
          rw [cell_row k5, Nat.zero_add]
          have hlt := (List.getElem?_eq_some_iff.1 hy).1
          rw [List.getElem?_take_of_lt (by simp at hlt; omega)] at hy
          simpa using hy) off hv
        rw [Nat.zero_add] at hl
        exact goal_plain h hf (by simp [execOp, ho, he, Instr.loadAt, Instr.sureAddr, hl]) hrep
    · simp at hc
  · simp at hc

end Go.AI

/- The abstract machine: slices in private rows: laid, appended to. -/
namespace Go.AI
set_option linter.unusedVariables false
set_option linter.unusedSimpArgs false
open Go

variable {G : Prg} {an : Ann} {E : EE} {B0 : Nat → Prop} {st : St} {ρ ρ0 ρm : Env} {σ σ' : Sig} {ups : List (Nat × Slot)} {a : Act} {o : Oper} {tmps : Array Value} {ops : Array Oper}

/-- A slice in a private row is put into a slot. -/
theorem goal_arr {st1 : St} {d b κ sz : Nat} {es : List AV} {c : Value} {vs : Array Value} {e : TypeId} (h : OK G an B0 st1 ρ0 σ a.tmps) (hst : Step B0 st st1) (hd : o.dst = some d) (hf : Fit an [(d, .arr sz es)])
    (hno : (∀ t off, ρ0 t ≠ .lptr d off) ∧ ∀ t n, ρ0 t ≠ .larr d n) (hr : (execOp a.eval o).run G.P st.w = .ok (.value c) st1.w)
    (hb : ¬ B0 b ∧ b < st1.w.heap.size ∧ ¬ st1.S b) (hn : ∀ p, ¬ Has st1.L ρ0 p b)
    (k1 : c = .slice (some ⟨b, 0, none⟩) es.length κ) (k2 : es.length ≤ κ) (k3 : st1.ext b = 0) (k4 : ∀ x ∈ es, x.cells.length = sz) (k5 : st1.w.heap[b]? = some (.cells vs e (0, 0))) (k6 : κ * sz ≤ vs.size)
    (k7 : Reps st1.w st1.ext st1.ι (es.flatMap AV.cells) (vs.toList.take (es.length * sz))) (k8 : ∀ x ∈ vs.toList, x.oneCell' = true) :
    OpGoal G an B0 st a o (upd ρ0 d (.arr sz es)) σ := by
  obtain ⟨f1, f2⟩ := hf (d, .arr sz es) (by simp)
  let st' : St := { st1 with L := { β := fun t => if t = d then b else st1.L.β t, κ := fun t => if t = d then κ else st1.L.κ t, γ := fun t i => if t = d then none else st1.L.γ t i } }
  refine ⟨c, st', .inl hr, ?_, ⟨hst.grow, hst.size, hst.blk, hst.os, hst.tape, hst.output⟩⟩
  rw [hd, put_tmps]
  refine h.relay (st' := st') f1 f2 (fun t ht => ?_) ?_ (fun t off ht hl => absurd hl (hno.1 t off)) (fun _ _ e => by cases e) (fun t n ht hl => absurd hl (hno.2 t n)) (fun _ _ e => by cases e)
    (fun t ht => by simp [st', ht]) (fun t ht i => by simp [st', ht]) (fun p x hp hh => ?_) (fun p x _ hh => (h.priv p x hh).2) h.base h.out h.sr
  · refine (h.slot t).lay (fun _ => by simp [st', ht]) (fun s' off e => ?_) (fun i _ => by simp [st', ht]) (fun _ => by simp [st', ht]) (fun s' n e => ?_)
    · have : s' ≠ d := by rintro rfl; exact hno.1 t off e
      simp [st', this]
    · have : s' ≠ d := by rintro rfl; exact hno.2 t n e
      simp [st', this]
  · have b1 : st'.L.β d = b := by simp [st']
    have b2 : st'.L.κ d = κ := by simp [st']
    exact ⟨by rw [b1, b2]; exact k1, by rw [b2]; exact k2, by rw [b1]; exact k3, k4, vs, e, by rw [b1]; exact k5, by rw [b2]; exact k6, k7, k8⟩
  · have hpp : p = .box d ∧ x = b := by
      cases p with
      | box t => simp only [Place.slot] at hp; subst hp; have := hh.2; simp [st'] at this; exact ⟨rfl, this.symm⟩
      | own t i => simp only [Place.slot] at hp; subst hp; have := hh.2; simp [st'] at this
    obtain ⟨rfl, rfl⟩ := hpp
    refine ⟨hb.1, hb.2.1, hb.2.2, fun q hq hh' => hn q hh', fun q hq hh' => ?_⟩
    cases q with
    | box t => simp only [Place.slot] at hq; subst hq; rfl
    | own t i => simp only [Place.slot] at hq; subst hq; have := hh'.2; simp [st'] at this

theorem sound_arr_build {t : TypeId} {len : Nat} {parts : Array (Nat × Operand)} (ho : o.op = .buildSlice t len parts) (h : OK G E.an B0 st ρ σ a.tmps) (hs : Sub ρm ρ) (hm : ∀ t ∈ rdOf E.an ops o, ρm t = ρ t)
    (hc : arrOp G E o ρm = some (some ups)) (hf : Fit E.an ups) : OpGoal G E.an B0 st a o (apply ups ρ) σ := by
  simp only [arrOp, ho] at hc
  split at hc
  · rename_i d hd
    split at hc
    · rename_i hdl
      simp only [Option.some.injEq, Option.bind_eq_bind] at hc
      split at hc
      · rename_i e hu
        simp only [Option.bind_eq_some_iff] at hc
        obtain ⟨zc, hzc, zv, hzv, hc⟩ := hc
        split at hc
        · simp at hc
        · rename_i hcond
          simp only [not_or, Decidable.not_not] at hcond
          obtain ⟨c1, c2, c3, c4, c5⟩ := hcond
          have c5 : noInto E.an ρm d = true := eq_true_of_ne_false c5
          rw [Option.bind_eq_some_iff] at hc
          obtain ⟨es, hfold, hc⟩ := hc
          simp only [Option.some.injEq] at hc; subst hc
          have hmd : ∀ p ∈ E.an.into, p.2 = d → ρm p.1 = ρ p.1 := by
            intro p hp hpq
            refine hm p.1 ?_
            unfold rdOf
            rw [List.mem_append, List.mem_append]
            refine .inl (.inr ?_)
            simp only [ho, hd, List.mem_map, List.mem_filter]
            exact ⟨p, ⟨hp, by simp [hpq]⟩, rfl⟩
          have hno := noInto_spec h hmd c5
          obtain ⟨ie, z, hie, hz, hzt⟩ := zeroC_info hzc
          obtain ⟨r1, r2, r3⟩ := joinC_rep (w := st.w) (ext := st.ext) (ι := st.ι) hzt hzv
          obtain ⟨z1, z2⟩ := r1.one r2
          have hcell : G.P.cellsOf e = ie.size := by simp [Program.cellsOf, hie]
          rw [hcell] at c1 c2 c3 hf hfold ⊢
          have hzs : z.cells.size = ie.size := by rw [← c1, z2.length]; simp
          have hpos : 0 < ie.size := Nat.pos_of_ne_zero c2
          obtain ⟨cells, hfill, hR⟩ := fill_fold (place := fun i => some (i * ie.size, ie.size)) (ev := a.eval)
            (fun (acc : List AV) cells => Reps st.w st.ext st.ι (acc.flatMap AV.cells) cells ∧ (∀ x ∈ cells, x.oneCell' = true) ∧ (∀ x ∈ acc, x.cells.length = ie.size) ∧ acc.length = len) _ parts.toList
            (fun c p c' cells hp hstep hR => by
              obtain ⟨fi, x⟩ := p
              simp only [Option.bind_eq_some_iff] at hstep
              obtain ⟨v, hv, hstep⟩ := hstep
              split at hstep
              · rename_i hcond
                obtain ⟨d1, d2, d3⟩ := hcond
                simp at hstep; subst hstep
                obtain ⟨o1, o2⟩ := (opv_rep h rfl hs hv).one d2
                have hl := o2.length
                have hlen' := hR.1.length
                rw [flat_len hR.2.2.1, hR.2.2.2] at hlen'
                refine ⟨fi * ie.size, ie.size, rfl, by rw [← d1, hl]; simp, ?_, ?_, ?_, ?_, ?_⟩
                · rw [← hlen']
                  have : (fi + 1) * ie.size ≤ len * ie.size := Nat.mul_le_mul_right _ d3
                  rw [Nat.add_mul, Nat.one_mul] at this
                  exact this
                · rw [set_flat hR.2.2.1 d1 (by rw [hR.2.2.2]; exact d3)]
                  exact hR.1.splice o2 _
                · intro y hy
                  rcases mem_splice hy with hy | hy
                  · exact hR.2.1 y hy
                  · exact o1 y hy
                · intro y hy
                  rcases List.mem_or_eq_of_mem_set hy with hy | hy
                  · exact hR.2.2.1 y hy
                  · subst hy; exact d1
                · simpa using hR.2.2.2
              · simp at hstep) (List.replicate len zv) es ((Array.range (len * ie.size)).map (z.cells[· % z.cells.size]!)) hfold (by
                rw [zeros_list z.cells ie.size hzs]
                refine ⟨reps_replicate z2 len, ?_, ?_, by simp⟩
                · intro x hx
                  rw [List.mem_flatten] at hx
                  obtain ⟨l, hl, hx⟩ := hx
                  rw [List.eq_of_mem_replicate hl] at hx
                  exact z1 x hx
                · intro x hx
                  rw [List.eq_of_mem_replicate hx]; exact c1)
          obtain ⟨q1, q2, q3, q4⟩ := hR
          have hrun : (execOp a.eval o).run G.P st.w = .ok (.value (.slice (some ⟨st.w.heap.size, 0, none⟩) len len)) (st.w.alloc (.cells cells e)) := by
            have := run_buildSlice (P := G.P) st.w t e len (parts.map fun (i, x) => (i, a.eval x)) cells ie z hu hie hz (by omega) (by
              have := Nat.mul_pos (Nat.pos_of_ne_zero c4) hpos; omega) (by rw [← hfill]; simp)
            simp [execOp, ho, this]
          have hnew : Newer st.w (st.w.alloc (.cells cells e)) := Newer.alloc _ _
          obtain ⟨hok, hst⟩ := h.newer (ext' := st.ext) hnew (fun _ _ => rfl) (fun b hb => h.sr.fresh b (Nat.le_trans hnew.size hb))
          have hcell2 : (st.w.alloc (.cells cells e)).heap[st.w.heap.size]? = some (.cells cells e (0, 0)) := heap_alloc_new st.w _
          have hclen : cells.size = len * ie.size := by
            have := q1.length
            rw [flat_len q3, q4] at this
            simpa using this.symm
          have := goal_arr (o := o) (es := es) (sz := ie.size) (κ := len) (b := st.w.heap.size) (vs := cells) (e := e) hok hst hd hf hno hrun ⟨h.top, by simp, fun hS => by have := h.sr.small _ hS; omega⟩ (fun p hp => by
              have := (h.priv p _ hp).2.1; omega) (by rw [q4]) (by omega) (h.sr.fresh _ (Nat.le_refl _)) q3 hcell2 (by rw [hclen]; exact Nat.le_refl _)
            (by rw [q4, ← hclen, List.take_of_length_le (by simp)]; exact q1.mono (hnew.grow h.sr fun _ _ => rfl)) q2
          exact this
      · simp at hc
    · simp at hc
  · simp at hc

theorem apply_none (l : List Nat) (ρ : Env) (t : Nat) : apply (l.map fun t => (t, Slot.none)) ρ t = if t ∈ l then .none else ρ t := by
  induction l generalizing ρ with
  | nil => rfl
  | cons x l ih =>
    have e : apply ((x :: l).map fun t => (t, Slot.none)) ρ = apply (l.map fun t => (t, Slot.none)) (upd ρ x .none) := rfl
    rw [e, ih]
    by_cases hl : t ∈ l
    · simp [hl]
    · by_cases hx : t = x
      · subst hx; simp [hl, upd_same]
      · simp [hl, hx, upd_other _ _ _ hx]

/-- Slots are emptied. -/
theorem OK.erase (h : OK G an B0 st ρ σ tmps) (l : List Nat) (h1 : ∀ t s off, ρ t = .lptr s off → s ∈ l → t ∈ l) (h2 : ∀ t s n, ρ t = .larr s n → s ∈ l → t ∈ l) :
    OK G an B0 st (apply (l.map fun t => (t, Slot.none)) ρ) σ tmps ∧ ∀ p b, Has st.L (apply (l.map fun t => (t, Slot.none)) ρ) p b → Has st.L ρ p b ∧ p.slot ∉ l := by
  have hget : ∀ t, (t ∈ l ∧ apply (l.map fun t => (t, Slot.none)) ρ t = .none) ∨ (t ∉ l ∧ apply (l.map fun t => (t, Slot.none)) ρ t = ρ t) := by
    intro t
    rw [apply_none]
    by_cases hl : t ∈ l
    · exact .inl ⟨hl, by simp [hl]⟩
    · exact .inr ⟨hl, by simp [hl]⟩
  have hhas : ∀ p b, Has st.L (apply (l.map fun t => (t, Slot.none)) ρ) p b → Has st.L ρ p b ∧ p.slot ∉ l := by
    intro p b hp
    cases p with
    | box t =>
      rcases hget t with ⟨k, e⟩ | ⟨k, e⟩
      · simp [Has, e, Slot.isLoc] at hp
      · exact ⟨by simpa [Has, e] using hp, k⟩
    | own t i =>
      rcases hget t with ⟨k, e⟩ | ⟨k, e⟩
      · simp [Has, e, Slot.ows] at hp
      · exact ⟨by simpa [Has, e] using hp, k⟩
  refine ⟨⟨h.size, fun t => ?_, fun t => ?_, fun t s off ht => ?_, fun p b hp => h.priv p b (hhas p b hp).1, fun p q b hp hq => h.inj p q b (hhas p b hp).1 (hhas q b hq).1, h.base, h.out, h.sr, fun t s n ht => ?_⟩, hhas⟩
  · rcases hget t with ⟨_, e⟩ | ⟨_, e⟩
    · rw [e]; trivial
    · rw [e]; exact h.slot t
  · rcases hget t with ⟨_, e⟩ | ⟨_, e⟩
    · rw [e]; intro h'; exact absurd rfl h'
    · rw [e]; exact h.fits t
  · rcases hget t with ⟨_, e⟩ | ⟨k, e⟩
    · rw [e] at ht; cases ht
    · rw [e] at ht
      rcases hget s with ⟨k', _⟩ | ⟨_, e'⟩
      · exact absurd (h1 t s off ht k') k
      · rw [e']; exact h.lptr t s off ht
  · rcases hget t with ⟨_, e⟩ | ⟨k, e⟩
    · rw [e] at ht; cases ht
    · rw [e] at ht
      rcases hget s with ⟨k', _⟩ | ⟨_, e'⟩
      · exact absurd (h2 t s n ht k') k
      · rw [e']; exact h.larr t s n ht

theorem fits_into (h : OK G an B0 st ρ σ tmps) {t s : Nat} (hs : (∃ off, ρ t = .lptr s off) ∨ ∃ n, ρ t = .larr s n) : t ∈ (an.into.filter (·.2 == s)).map (·.1) := by
  have hmem : (t, s) ∈ an.into := by
    rcases hs with ⟨off, hs⟩ | ⟨n, hs⟩
    · have hfit := h.fits t (by rw [hs]; simp)
      rw [hs] at hfit
      simp only [fitsSlot, Bool.and_eq_true] at hfit
      exact lookup_mem (by simpa using hfit.1.2)
    · have hfit := h.fits t (by rw [hs]; simp)
      rw [hs] at hfit
      simp only [fitsSlot, Bool.and_eq_true] at hfit
      exact lookup_mem (by simpa using hfit.1.2)
  exact List.mem_map.2 ⟨(t, s), List.mem_filter.2 ⟨hmem, by simp⟩, rfl⟩

end Go.AI

/- The abstract machine: slices in private rows: appended to; every operation on private rows. -/
namespace Go.AI
set_option linter.unusedVariables false
set_option linter.unusedSimpArgs false
open Go

variable {G : Prg} {an : Ann} {E : EE} {B0 : Nat → Prop} {st : St} {ρ ρ0 ρm : Env} {σ σ' : Sig} {ups : List (Nat × Slot)} {a : Act} {o : Oper} {tmps : Array Value} {ops : Array Oper}

theorem mem_zeroCells {z : Array Value} {n : Nat} {x : Value} (hz : 0 < z.size) (h : x ∈ (Builtin.zeroCells z n).toList) : x ∈ z.toList := by
  simp only [Builtin.zeroCells, Array.toList_map, List.mem_map] at h
  obtain ⟨i, _, rfl⟩ := h
  have hlt : i % z.size < z.size := Nat.mod_lt _ hz
  rw [getElem!_pos z (i % z.size) hlt]
  simp

theorem sound_arr_append {args : Array Operand} {tys : Array TypeId} (ho : o.op = .call { callee := .builtin .append, args := args, argTypes := tys }) (h : OK G E.an B0 st ρ σ a.tmps) (hs : Sub ρm ρ) (hm : ∀ t ∈ rdOf E.an ops o, ρm t = ρ t)
    (hc : arrOp G E o ρm = some (some ups)) (hf : Fit E.an ups) : OpGoal G E.an B0 st a o (apply ups ρ) σ := by
  simp only [arrOp, ho] at hc
  split at hc
  · rename_i x y tx ty hargs htys
    split at hc
    · rename_i s n hl
      obtain ⟨tt, rfl, hρ⟩ := larrOf_spec hs hl
      obtain ⟨k1, sz0, es0, k2, k3⟩ := larr_slot h hρ
      simp only [Option.some.injEq, Option.bind_eq_bind, Option.bind_eq_some_iff] at hc
      obtain ⟨q, hq, hc⟩ := hc
      split at hc
      · rename_i sz es d e sz' es' hms hd hu
        have hm' := hs.val hms (by simp)
        rw [k2] at hm'
        injection hm' with e1 e2
        subst e1; subst e2
        split at hc
        · rename_i hcond
          obtain ⟨c0, hdl, hds, hno, hn, hxy, hsz, hsz', hpos, hlen, hb1, hb0, hzc⟩ := hcond
          simp only [Option.some.injEq] at hc
          subst hxy
          subst hsz'
          obtain ⟨l, hll⟩ : ∃ l, l = (E.an.into.filter (·.2 == s)).map (·.1) ++ [s] := ⟨_, rfl⟩
          have hups : ups = l.map (fun t => (t, Slot.none)) ++ [(d, .arr sz' (es0.take n ++ es'))] := by
            rw [← hc, hll]; simp [Function.comp_def]
          subst hups
          -- the slots into the row are emptied
          have hnoloc : ∀ t, t ∈ (E.an.into.filter (·.2 == s)).map (·.1) → (ρ t).isLoc = false := by
            intro t ht
            obtain ⟨p, hp, rfl⟩ := List.mem_map.1 ht
            rw [List.all_eq_true] at c0
            have := c0 p (List.mem_filter.1 hp).1
            have hnl : E.an.loc.contains p.1 = false := by simpa using this
            by_cases hn0 : ρ p.1 = .none
            · rw [hn0]; rfl
            · rcases fits_loc (h.fits p.1 hn0) with k | k
              · rw [k]; exact hnl
              · exact absurd k hn0
          have hsl : s ∈ l := by rw [hll]; simp
          obtain ⟨h0, hhas⟩ := h.erase l (fun t s' off ht hs' => by
              rw [hll, List.mem_append] at hs' ⊢
              rcases hs' with hs' | hs'
              · have k := h.lptr t s' off ht
                rw [hnoloc s' hs'] at k; cases k
              · simp at hs'; subst hs'
                exact .inl (fits_into h (.inl ⟨off, ht⟩))) (fun t s' m ht hs' => by
              rw [hll, List.mem_append] at hs' ⊢
              rcases hs' with hs' | hs'
              · obtain ⟨z1, z2, k, _⟩ := h.larr t s' m ht
                have := hnoloc s' hs'
                rw [k] at this; cases this
              · simp at hs'; subst hs'
                exact .inl (fits_into h (.inr ⟨m, ht⟩)))
          have hmd : ∀ p ∈ E.an.into, p.2 = d → ρm p.1 = ρ p.1 := by
            intro p hp hpq
            refine hm p.1 ?_
            unfold rdOf
            rw [List.mem_append, List.mem_append]
            refine .inl (.inr ?_)
            simp only [ho, hd, hdl, if_true, List.mem_map, List.mem_filter]
            exact ⟨p, ⟨hp, by simp [hpq]⟩, rfl⟩
          have hno1 := noInto_spec h hmd hno
          have hget : ∀ t, apply (l.map fun t => (t, Slot.none)) ρ t = .none ∨ apply (l.map fun t => (t, Slot.none)) ρ t = ρ t := by
            intro t
            rw [apply_none]
            split
            · exact .inl rfl
            · exact .inr rfl
          have hno0 : (∀ t off, apply (l.map fun t => (t, Slot.none)) ρ t ≠ .lptr d off) ∧ ∀ t m, apply (l.map fun t => (t, Slot.none)) ρ t ≠ .larr d m := by
            constructor
            · intro t off e
              rcases hget t with k | k
              · rw [k] at e; cases e
              · rw [k] at e; exact hno1.1 t off e
            · intro t off e
              rcases hget t with k | k
              · rw [k] at e; cases e
              · rw [k] at e; exact hno1.2 t off e
          have hf' : Fit E.an [(d, .arr sz' (es0.take n ++ es'))] := fun u hu => hf u (List.mem_append_right _ hu)
          obtain ⟨s1, s2, s3, s4, vs, et, s5, s6, s7, s8⟩ := arr_slot h k2
          have hbox : Has st.L ρ (.box s) (st.L.β s) := ⟨by rw [k2]; rfl, rfl⟩
          have hpb := h.priv _ _ hbox
          have hnb : ∀ p, ¬ Has st.L (apply (l.map fun t => (t, Slot.none)) ρ) p (st.L.β s) := by
            intro p hp
            obtain ⟨q1, q2⟩ := hhas p _ hp
            have := h.inj _ _ _ q1 hbox
            subst this
            exact q2 hsl
          rw [Option.map_eq_some_iff] at hzc
          obtain ⟨zc, hzc, hzl⟩ := hzc
          obtain ⟨i, z, hi, hz, hzt⟩ := zeroC_info hzc
          obtain ⟨zt1, zt2, _⟩ := tcells_rep (w := st.w) (ext := st.ext) (ι := st.ι) _ _ _ _ hzt
          have hzs : z.cells.size = sz' := by
            have := zt1.length
            rw [hzl] at this; simpa using this.symm
          have hisz : i.size = sz' := by rw [hsz]; simp [Program.cellsOf, hi]
          have hib : i.bytes ≤ 1024 := by simpa [hi] using hb1
          have hargs' : args = #[.tmp tt, y] := by cases args; simp at hargs; rw [hargs]
          have htys' : tys = #[tx, tx] := by cases tys; simp at htys; rw [htys]
          have run : ∀ v w', (Builtin.append_ #[tx, tx] o.type #[a.eval (.tmp tt), a.eval y]).run G.P st.w = .ok v w' → (execOp a.eval o).run G.P st.w = .ok (.value v) w' := by
            intro v w' hr
            simp [execOp, ho, hargs', htys', resolve, invoke, builtin, hr]
          have he : a.eval (.tmp tt) = .slice (some ⟨st.L.β s, 0, none⟩) n (st.L.κ s) := k1
          obtain ⟨pa', cap', vs', he', hcap', hes', hr', hone', hadr'⟩ := rep_slice_inv (opv_rep h rfl hs hq)
          have hvl' := len_flat hes' hr'
          have hvs : es0.length * sz' ≤ vs.size := Nat.le_trans (Nat.mul_le_mul_right _ s2) s6
          have hns : n * sz' ≤ es0.length * sz' := Nat.mul_le_mul_right _ k3
          have hess : ∀ e ∈ es0.take n ++ es', e.cells.length = sz' := fun x hx => by
            rcases List.mem_append.1 hx with hx | hx
            · exact s4 x (List.mem_of_mem_take hx)
            · exact hes' x hx
          have htl : (es0.take n).length = n := by simp; omega
          -- the first elements
          have hfront : Reps st.w st.ext st.ι ((es0.take n).flatMap AV.cells) (vs.toList.take (n * sz')) := by
            have := s7.take (n * sz')
            rw [flat_take s4, List.take_take, Nat.min_eq_left hns] at this
            exact this
          have hfl : (vs.toList.take (n * sz')).length = n * sz' := by simp; omega
          rw [apply_append]
          by_cases hme : es' = []
          · subst hme
            have hrun := run _ _ (by rw [he, he']; exact run_append_zero st.w tx o.type e i hu hi (some ⟨st.L.β s, 0, none⟩) pa' n (st.L.κ s) cap' (by omega))
            exact goal_arr (b := st.L.β s) (κ := st.L.κ s) (vs := vs) (e := et) h0 (Step.refl _ _) hd hf' hno0 hrun hpb hnb (by rw [List.append_nil, htl]) (by rw [List.append_nil, htl]; omega) s3 hess s5 s6
              (by rw [List.append_nil, htl]; exact hfront) s8
          · have hm' : 0 < es'.length := List.length_pos_iff.2 hme
            have hne' : vs' ≠ [] := by
              intro hv; rw [hv] at hvl'
              have : 0 < es'.length * sz' := Nat.mul_pos hm' hpos
              simp at hvl'; omega
            obtain ⟨b', off', rfl, hcell'⟩ := hadr'.resolve_left hne'
            have hnews : ∀ j u, vs'[j]? = some u → st.w.cell? ((⟨b', off', none⟩ : Addr).add j) = some u := fun j u hu => by rw [addr_add]; exact (hcell' j u hu).1
            have hl' : vs'.length = es'.length * i.size := by rw [hisz]; exact hvl'
            have hlen2 : (es0.take n ++ es').length = n + es'.length := by rw [List.length_append, htl]
            by_cases hroom : n + es'.length ≤ st.L.κ s
            · -- in its own row
              have hfitr : n * i.size + vs'.length ≤ vs.size := by
                rw [hisz, hvl', ← Nat.add_mul]; exact Nat.le_trans (Nat.mul_le_mul_right _ hroom) s6
              have hrun := run_append_own (P := G.P) st.w tx o.type e et i hu hi (st.L.β s) n (st.L.κ s) vs s5 ⟨b', off', none⟩ es'.length cap' vs' hl' hnews hone' hroom hfitr
              rw [← he, ← he'] at hrun
              let new : Array Value := (vs.toList.take (n * i.size) ++ vs' ++ vs.toList.drop (n * i.size + vs'.length)).toArray
              have hnewl : new.toList = vs.toList.take (n * sz') ++ vs' ++ vs.toList.drop (n * sz' + vs'.length) := by simp [new, hisz]
              have hheap : (st.w.setRow (st.L.β s) new).heap[st.L.β s]? = some (.cells new et (0, 0)) := setRow_heap _ _ _ _ _ _ s5
              have hgrow : Grow st.w st.ext st.ι (st.w.setRow (st.L.β s) new) st.ext st.ι := by
                refine (Turn.setRow st.w (st.L.β s) new).grow (fun _ _ => rfl) (Nat.le_refl _) fun oo v ho hv => ?_
                rw [s3] at ho; omega
              obtain ⟨hok, hst⟩ := h0.turn hgrow (Turn.setRow st.w (st.L.β s) new) (fun _ _ => rfl) hnb hpb
              have hnsz : new.size = vs.size := by
                have := congrArg List.length hnewl
                rw [hisz] at hfitr
                simp only [List.length_append, List.length_take, List.length_drop, Array.length_toList] at this
                omega
              refine goal_arr (b := st.L.β s) (κ := st.L.κ s) (vs := new) (e := et) hok hst hd hf' hno0 (run _ _ hrun) ⟨hpb.1, by simpa using hpb.2.1, hpb.2.2⟩ hnb (by rw [hlen2]) (by rw [hlen2]; exact hroom) s3 hess hheap
                (by rw [hnsz]; exact s6) ?_ (fun x hx => ?_)
              · rw [flatMap_append_cells, hnewl, hlen2]
                have : (vs.toList.take (n * sz') ++ vs').length = (n + es'.length) * sz' := by rw [List.length_append, hfl, hvl', Nat.add_mul]
                rw [← this, List.take_append_of_le_length (Nat.le_refl _), List.take_of_length_le (Nat.le_refl _)]
                exact (hfront.mono hgrow).append (hr'.mono hgrow)
              · rw [hnewl] at hx
                simp only [List.mem_append] at hx
                rcases hx with (hx | hx) | hx
                · exact s8 x (List.mem_of_mem_take hx)
                · exact hone' x hx
                · exact s8 x (List.mem_of_mem_drop hx)
            · -- a new row
              have hgr : st.L.κ s < n + es'.length := by omega
              have hnb2 : (n + es'.length) * i.bytes ≤ 140737488355328 := Nat.le_trans (Nat.mul_le_mul hlen hib) (by decide)
              have hC := grownCap_ge st.w (n + es'.length) (st.L.κ s) e
              have hrun := run_append_grow (P := G.P) st.w tx o.type e i z hu hi hz ⟨st.L.β s, 0, none⟩ n (st.L.κ s) (vs.toList.take (n * sz')) (by rw [hisz]; exact hfl)
                (fun j v hv => by
                  rw [addr_add, cell_row s5, Nat.zero_add]
                  have hlt := (List.getElem?_eq_some_iff.1 hv).1
                  rw [List.getElem?_take_of_lt (by rw [hfl] at hlt; exact hlt)] at hv
                  simpa using hv) ⟨b', off', none⟩ es'.length cap' vs' hl' hnews hgr (by omega) (growslice_fits (by omega) hnb2)
              rw [← he, ← he'] at hrun
              obtain ⟨cs, hcs⟩ : ∃ cs, cs = (vs.toList.take (n * sz')).toArray ++ vs'.toArray ++ Builtin.zeroCells z.cells (grownCap st.w (n + es'.length) (st.L.κ s) e - (n + es'.length)) := ⟨_, rfl⟩
              rw [← hcs] at hrun
              have hnew : Newer st.w (st.w.drew.alloc (.cells cs e)) := (Newer.drew _).trans (Newer.alloc _ _)
              obtain ⟨hok, hst⟩ := h0.newer (ext' := st.ext) hnew (fun _ _ => rfl) (fun b hb => h.sr.fresh b (Nat.le_trans hnew.size hb))
              have hgrow := hnew.grow h.sr (ext' := st.ext) (fun _ _ => rfl)
              have hcell2 : (st.w.drew.alloc (.cells cs e)).heap[st.w.heap.size]? = some (.cells cs e (0, 0)) := heap_alloc_new st.w.drew _
              have hpre : (vs.toList.take (n * sz') ++ vs').length = (n + es'.length) * sz' := by rw [List.length_append, hfl, hvl', Nat.add_mul]
              refine goal_arr (b := st.w.heap.size) (κ := grownCap st.w (n + es'.length) (st.L.κ s) e) (vs := cs) (e := e) hok hst hd hf' hno0 (run _ _ hrun)
                ⟨h.top, by simp, fun hS => by have := h.sr.small _ hS; omega⟩ (fun p hp => by have := (h0.priv p _ hp).2.1; omega) (by rw [hlen2]) (by rw [hlen2]; exact hC) (h.sr.fresh _ (Nat.le_refl _)) hess hcell2 ?_ ?_ (fun x hx => ?_)
              · rw [hcs]
                simp only [Array.size_append, List.size_toArray, size_zeroCells, hzs, hfl, hvl']
                rw [← Nat.add_mul, ← Nat.add_mul]
                exact Nat.mul_le_mul_right _ (by omega)
              · have htk : cs.toList.take ((vs.toList.take (n * sz') ++ vs').length) = vs.toList.take (n * sz') ++ vs' := by
                  rw [hcs]
                  simp only [Array.toList_append]
                  rw [List.take_append_of_le_length (by simp)]
                  exact List.take_of_length_le (Nat.le_refl _)
                rw [flatMap_append_cells, hlen2, ← hpre, htk]
                exact (hfront.mono hgrow).append (hr'.mono hgrow)
              · rw [hcs] at hx
                simp only [Array.toList_append, List.mem_append] at hx
                rcases hx with (hx | hx) | hx
                · exact s8 x (List.mem_of_mem_take hx)
                · exact hone' x hx
                · exact zt2 x (mem_zeroCells (by omega) hx)
        · simp at hc
      · simp at hc
    · simp at hc
  · simp at hc

theorem sound_arr {ops : Array Oper} (h : OK G E.an B0 st ρ σ a.tmps) (hs : Sub ρm ρ) (hm : ∀ t ∈ rdOf E.an ops o, ρm t = ρ t) (hc : arrOp G E o ρm = some (some ups)) (hf : Fit E.an ups) :
    OpGoal G E.an B0 st a o (apply ups ρ) σ := by
  cases ho : o.op with
  | move x => exact sound_arr_move (.inl ho) h hs hm hc hf
  | assign x => exact sound_arr_move (.inr ho) h hs hm hc hf
  | buildSlice t len parts => exact sound_arr_build ho h hs hm hc hf
  | indexAddr t x i => exact sound_arr_indexAddr ho h hs hc hf
  | slice t x lo hi mx => exact sound_arr_slice ho h hs hc hf
  | load t x => exact sound_arr_load ho h hs hc hf
  | call c =>
    obtain ⟨callee, args, tys⟩ := c
    cases callee with
    | builtin b =>
      cases b with
      | append => exact sound_arr_append ho h hs hm hc hf
      | len => exact sound_arr_len ho h hs hc hf
      | _ => simp [arrOp, ho] at hc
    | value f => simp [arrOp, ho] at hc
    | invoke r n => simp [arrOp, ho] at hc
  | _ => simp [arrOp, ho] at hc



end Go.AI

