/- The abstract machine: new boxes. -/
import Derived.Test.YtdpamhejneicdaaGreatDoorZAI10
namespace Go.AI
set_option linter.unusedVariables false
set_option linter.unusedSimpArgs false
open Go

variable {G : Prg} {an : Ann} {E : EE} {B0 : Nat → Prop} {st : St} {ρ ρm : Env} {σ σ' : Sig} {ups : List (Nat × Slot)} {a : Act} {o : Oper} {tmps : Array Value}

/-- A slot is set anew, in a world in which the other slots still hold. -/
theorem OK.relay (h : OK G an B0 st ρ σ tmps) {st' : St} {d : Nat} {s : Slot} {c : Value} (hd : d < an.ntmps) (hfit : fitsSlot an d s = true)
    (hslot : ∀ t, t ≠ d → SlotOK st'.w st'.ext st'.ι st'.L t (ρ t) (tmps.getD t undef)) (hsl : SlotOK st'.w st'.ext st'.ι st'.L d s c)
    (hlp : ∀ t off, t ≠ d → ρ t = .lptr d off → s.isLoc = true) (hlp2 : ∀ s' off, s = .lptr s' off → s' ≠ d ∧ (ρ s').isLoc = true)
    (hla : ∀ t n, t ≠ d → ρ t = .larr d n → ∃ sz es, s = .arr sz es ∧ n ≤ es.length) (hla2 : ∀ s' n, s = .larr s' n → s' ≠ d ∧ ∃ sz es, ρ s' = .arr sz es ∧ n ≤ es.length)
    (hβ : ∀ t, t ≠ d → st'.L.β t = st.L.β t) (hγ : ∀ t, t ≠ d → ∀ i, st'.L.γ t i = st.L.γ t i)
    (hpriv : ∀ p b, p.slot = d → Has st'.L (upd ρ d s) p b → ¬ B0 b ∧ b < st'.w.heap.size ∧ ¬ st'.S b ∧ (∀ q, q.slot ≠ d → ¬ Has st.L ρ q b) ∧ ∀ q, q.slot = d → Has st'.L (upd ρ d s) q b → p = q)
    (hpriv' : ∀ p b, p.slot ≠ d → Has st.L ρ p b → b < st'.w.heap.size ∧ ¬ st'.S b)
    (hbase : ∀ b, B0 b → b < st'.w.heap.size) (hout : ∀ b, st'.S b → ¬ B0 b) (hsr : SR G st'.w st'.ext st'.ι st'.S st'.SL σ') :
    OK G an B0 st' (upd ρ d s) σ' (tmps.setIfInBounds d c) := by
  have hd' : d < tmps.size := by rw [h.size]; exact hd
  have hhas : ∀ p b, p.slot ≠ d → (Has st'.L (upd ρ d s) p b ↔ Has st.L ρ p b) := by
    intro p b hp
    cases p with
    | box t => simp only [Place.slot] at hp; simp [Has, upd_other _ _ _ hp, hβ t hp]
    | own t i => simp only [Place.slot] at hp; simp [Has, upd_other _ _ _ hp, hγ t hp]
  refine ⟨by simpa using h.size, fun t => ?_, fun t => ?_, fun t s' off ht => ?_, fun p b hh => ?_, fun p q b hh hq => ?_, hbase, hout, hsr, fun t s' n ht => ?_⟩
  · rw [getD_set _ _ _ hd']
    by_cases ht : t = d
    · subst ht; rw [upd_same, if_pos rfl]; exact hsl
    · rw [upd_other _ _ _ ht, if_neg ht]; exact hslot t ht
  · by_cases ht : t = d
    · subst ht; rw [upd_same]; intro _; exact hfit
    · rw [upd_other _ _ _ ht]; exact h.fits t
  · by_cases ht' : t = d
    · subst ht'; rw [upd_same] at ht
      obtain ⟨k1, k2⟩ := hlp2 _ _ ht
      rw [upd_other _ _ _ k1]; exact k2
    · rw [upd_other _ _ _ ht'] at ht
      by_cases hs : s' = d
      · subst hs; rw [upd_same]; exact hlp t off ht' ht
      · rw [upd_other _ _ _ hs]; exact h.lptr t s' off ht
  · by_cases hs : p.slot = d
    · have := hpriv p b hs hh
      exact ⟨this.1, this.2.1, this.2.2.1⟩
    · have := (hhas p b hs).1 hh
      have h' := hpriv' p b hs this
      exact ⟨(h.priv p b this).1, h'.1, h'.2⟩
  · by_cases hs : p.slot = d <;> by_cases hs' : q.slot = d
    · exact (hpriv p b hs hh).2.2.2.2 q hs' hq
    · exact absurd ((hhas q b hs').1 hq) ((hpriv p b hs hh).2.2.2.1 q hs')
    · exact absurd ((hhas p b hs).1 hh) ((hpriv q b hs' hq).2.2.2.1 p hs)
    · exact h.inj p q b ((hhas p b hs).1 hh) ((hhas q b hs').1 hq)
  · by_cases ht' : t = d
    · subst ht'; rw [upd_same] at ht
      obtain ⟨k1, sz, es, k2, k3⟩ := hla2 _ _ ht
      exact ⟨sz, es, by rw [upd_other _ _ _ k1]; exact k2, k3⟩
    · rw [upd_other _ _ _ ht'] at ht
      by_cases hs : s' = d
      · subst hs; rw [upd_same]; exact hla t n ht' ht
      · rw [upd_other _ _ _ hs]; exact h.larr t s' n ht

theorem lookup_mem {l : List (Nat × Nat)} {t d : Nat} (h : l.lookup t = some d) : (t, d) ∈ l := by
  induction l with
  | nil => simp at h
  | cons p l ih =>
    obtain ⟨k, v⟩ := p
    simp only [List.lookup] at h
    split at h
    · rename_i hk
      have hk' : t = k := by simpa using hk
      simp at h; subst h; subst hk'; simp
    · exact List.mem_cons_of_mem _ (ih h)

theorem noInto_spec (h : OK G an B0 st ρ σ tmps) {d : Nat} (hm : ∀ p ∈ an.into, p.2 = d → ρm p.1 = ρ p.1) (hn : noInto an ρm d = true) : (∀ t off, ρ t ≠ .lptr d off) ∧ ∀ t n, ρ t ≠ .larr d n := by
  unfold noInto at hn
  rw [List.all_eq_true] at hn
  constructor
  · intro t off ht
    have hfit := h.fits t (by rw [ht]; simp)
    rw [ht] at hfit
    simp only [fitsSlot, Bool.and_eq_true] at hfit
    have hmem := lookup_mem (l := an.into) (t := t) (d := d) (by simpa using hfit.1.2)
    have := hn _ hmem
    rw [hm _ hmem rfl, ht] at this
    simp at this
  · intro t off ht
    have hfit := h.fits t (by rw [ht]; simp)
    rw [ht] at hfit
    simp only [fitsSlot, Bool.and_eq_true] at hfit
    have hmem := lookup_mem (l := an.into) (t := t) (d := d) (by simpa using hfit.1.2)
    have := hn _ hmem
    rw [hm _ hmem rfl, ht] at this
    simp at this

/-- A new private box. -/
theorem goal_newloc {d : Nat} {cs : List AV} {ow : List Nat} {c : Value} {t : TypeId} (h : OK G an B0 st ρ σ a.tmps) (hd : o.dst = some d) (hf : Fit an (puts o.dst (.loc cs ow)))
    (hm : ∀ p ∈ an.into, p.2 = d → ρm p.1 = ρ p.1) (hno : noInto an ρm d = true)
    (hr : (execOp a.eval o).run G.P st.w = .ok (.value (.pointer (some ⟨st.w.heap.size, 0, none⟩))) (st.w.alloc (.cells c.cells t)))
    (hreps : Reps st.w st.ext st.ι cs c.cells.toList) (h1 : ∀ x ∈ c.cells.toList, x.oneCell' = true) (how : ∀ i ∈ ow, ∀ x, c.cells[i]? = some x → ∀ p n cap, x = .slice p n cap → cap = n) :
    OpGoal G an B0 st a o (apply (puts o.dst (.loc cs ow)) ρ) σ := by
  obtain ⟨f1, f2⟩ := hf (d, .loc cs ow) (by simp [puts, hd])
  have hnew : Newer st.w (st.w.alloc (.cells c.cells t)) := Newer.alloc _ _
  obtain ⟨hok, hst⟩ := h.newer (ext' := st.ext) hnew (fun _ _ => rfl) (fun b hb => h.sr.fresh b (Nat.le_trans hnew.size hb))
  have hgrow := hnew.grow h.sr (ext' := st.ext) (fun _ _ => rfl)
  have hcell : (st.w.alloc (.cells c.cells t)).heap[st.w.heap.size]? = some (.cells c.cells t (0, 0)) := heap_alloc_new st.w _
  let st' : St := { st with w := st.w.alloc (.cells c.cells t), L := (st.L.setγ d fun _ => none).setβ d st.w.heap.size }
  have hsz : (st.w.alloc (.cells c.cells t)).heap.size = st.w.heap.size + 1 := by simp
  refine ⟨_, st', .inl hr, ?_, ⟨hst.grow, hst.size, hst.blk, hst.os, hst.tape, hst.output⟩⟩
  simp only [puts, apply, hd, put_tmps, List.foldl]
  refine hok.relay (st' := st') f1 f2 (fun u hu => ?_) ?_ (fun t' off _ ht => rfl) (fun s' off hs => by cases hs) (fun u n _ ht => absurd ht ((noInto_spec h hm hno).2 u n)) (fun s' n hs => by cases hs) (fun u hu => by simp [st', Lay.setβ, Lay.setγ, hu]) (fun u hu i => by simp [st', Lay.setβ, Lay.setγ, hu])
    (fun p b hp hh => ?_) (fun p b hp hh => ?_) hok.base hok.out hok.sr
  · refine (hok.slot u).lay (fun _ => by simp [st', Lay.setβ, Lay.setγ, hu]) (fun s' off hs => ?_) (fun i _ => by simp [st', Lay.setβ, Lay.setγ, hu]) (fun _ => rfl) (fun s' n hs => ?_)
    · have : s' ≠ d := by rintro rfl; exact (noInto_spec h hm hno).1 u off hs
      simp [st', Lay.setβ, Lay.setγ, this]
    · have : s' ≠ d := by rintro rfl; exact (noInto_spec h hm hno).2 u n hs
      simp [st', Lay.setβ, Lay.setγ, this]
  · have hβ : st'.L.β d = st.w.heap.size := by simp [st', Lay.setβ]
    refine ⟨by rw [hβ], by rw [hβ]; exact h.sr.fresh _ (Nat.le_refl _), c.cells, t, by rw [hβ]; exact hcell, hreps.mono hgrow, h1, fun i hi aa x ha hx => ?_⟩
    have : st'.L.γ d i = none := by simp [st', Lay.setβ, Lay.setγ]
    rw [this]
    exact how i hi x hx
  · have hb : p = .box d ∧ b = st.w.heap.size := by
      cases p with
      | box t' =>
        simp only [Place.slot] at hp; subst hp
        exact ⟨rfl, by have := hh.2; simp [st', Lay.setβ] at this; exact this.symm⟩
      | own t' i =>
        simp only [Place.slot] at hp; subst hp
        have := hh.2
        simp [st', Lay.setβ, Lay.setγ] at this
    obtain ⟨rfl, rfl⟩ := hb
    refine ⟨h.top, by simp [st'], fun hS => by have := h.sr.small _ hS; omega, fun q _ hq => by have := (h.priv q _ hq).2.1; omega, fun q hq hh' => ?_⟩
    cases q with
    | box t' => simp only [Place.slot] at hq; subst hq; rfl
    | own t' i =>
      simp only [Place.slot] at hq; subst hq
      have := hh'.2
      simp [st', Lay.setβ, Lay.setγ] at this
  · have := hok.priv p b hh
    exact ⟨this.2.1, this.2.2⟩

/-- A new object among the shared ones. -/
theorem SR.add {w w' : World} {ext ext' : Nat → Nat} {ι : List Nat} {S : Nat → Prop} {SL : Nat → Nat → Option Nat} (h : SR G w ext ι S SL σ) (hn : Newer w w') (he : ∀ b, b < w.heap.size → ext' b = ext b) (hf : ∀ b, w'.heap.size ≤ b → ext' b = 0)
    {b : Nat} (hb : w.heap.size ≤ b) (hb' : b < w'.heap.size) {o : AObj} (hobj : ObjOK w' ext' (ι ++ [b]) G (fun _ _ => none) (σ ++ [o]) σ.length b o) :
    Grow w ext ι w' ext' (ι ++ [b]) ∧ SR G w' ext' (ι ++ [b]) (fun x => S x ∨ x = b) (fun i => if i = σ.length then fun _ => none else SL i) (σ ++ [o]) := by
  have hg0 := hn.grow h he
  have hg : Grow w ext ι w' ext' (ι ++ [b]) := ⟨hg0.cell, hg0.ext, List.prefix_append _ _⟩
  have hold : ∀ x, S x → w'.heap[x]? = w.heap[x]? ∧ ext' x = ext x := fun x hx => ⟨hn.blk x (h.small x hx), he x (h.small x hx)⟩
  have hget : ∀ (id : Nat) (o' : AObj), (σ ++ [o])[id]? = some o' → (id < σ.length ∧ σ[id]? = some o') ∨ (id = σ.length ∧ o' = o) := by
    intro id o' ho'
    rcases Nat.lt_trichotomy id σ.length with hi | hi | hi
    · rw [List.getElem?_append_left hi] at ho'; exact .inl ⟨hi, ho'⟩
    · subst hi; simp at ho'; exact .inr ⟨rfl, ho'.symm⟩
    · rw [List.getElem?_eq_none (by simp; omega)] at ho'; cases ho'
  have hgetι : ∀ (id x : Nat), id < σ.length → (ι ++ [b])[id]? = some x → ι[id]? = some x := by
    intro id x hi hx
    rwa [List.getElem?_append_left (by rw [h.len]; exact hi)] at hx
  refine ⟨hg, ⟨by simp [h.len], ?_, fun id o' x ho' hx => ?_, fun x hx => ?_, fun id o' i x ho' hi hx => ?_, fun id o' i id' o'' i' x ho' hi hx ho'' hi' hx' => ?_, fun x hx => ?_, hf, fun g aa ha => (h.globals g aa ha).mono hg⟩⟩
  · rw [List.nodup_append]
    refine ⟨h.nodup, by simp, fun x hx y hy => ?_⟩
    simp at hy; subst hy
    rintro rfl
    have := h.small _ (h.inS _ hx)
    omega
  · rcases hget id o' ho' with ⟨hi, ho'⟩ | ⟨rfl, rfl⟩
    · have hx' := hgetι id x hi hx
      have := (h.obj id o' x ho' hx').keep (σ' := σ ++ [o]) hg (hold x (h.inS x (List.mem_of_getElem? hx'))) fun i hi' c hc => hold c (h.ownS id o' i c ho' hi' hc).1
      cases o' with
      | box cs ow =>
        obtain ⟨k1, vs, e, k2, k3, k4, k5⟩ := this
        exact ⟨k1, vs, e, k2, k3, k4, fun i hi' aa y ha hy => by simp only [if_neg (Nat.ne_of_lt hi)]; exact k5 i hi' aa y ha hy⟩
      | loop L => exact ⟨this.ex⟩
    · have hxb : x = b := by rw [← h.len] at hx; simpa using hx.symm
      subst hxb
      cases o' with
      | box cs ow =>
        obtain ⟨k1, vs, e, k2, k3, k4, k5⟩ := hobj
        exact ⟨k1, vs, e, k2, k3, k4, fun i hi' aa y ha hy => by simp only [if_true]; exact k5 i hi' aa y ha hy⟩
      | loop L => exact ⟨hobj.ex⟩
  · rw [List.mem_append] at hx
    rcases hx with hx | hx
    · exact .inl (h.inS x hx)
    · simp at hx; exact .inr hx
  · rcases hget id o' ho' with ⟨hi', ho'⟩ | ⟨rfl, rfl⟩
    · simp only [if_neg (Nat.ne_of_lt hi')] at hx
      obtain ⟨k1, k2⟩ := h.ownS id o' i x ho' hi hx
      refine ⟨.inl k1, fun hm => ?_⟩
      rw [List.mem_append] at hm
      rcases hm with hm | hm
      · exact k2 hm
      · simp at hm; subst hm; have := h.small _ k1; omega
    · simp at hx
  · rcases hget id o' ho' with ⟨hj, ho'⟩ | ⟨rfl, rfl⟩
    · rcases hget id' o'' ho'' with ⟨hj', ho''⟩ | ⟨rfl, rfl⟩
      · simp only [if_neg (Nat.ne_of_lt hj)] at hx
        simp only [if_neg (Nat.ne_of_lt hj')] at hx'
        exact h.inj id o' i id' o'' i' x ho' hi hx ho'' hi' hx'
      · simp at hx'
    · simp at hx
  · rcases hx with hx | rfl
    · exact Nat.lt_of_lt_of_le (h.small x hx) hn.size
    · exact hb'

/-- The frame, where a new object comes among the shared ones. -/
theorem OK.add (h : OK G an B0 st ρ σ tmps) {w' : World} {ext' : Nat → Nat} (hn : Newer st.w w') (he : ∀ b, b < st.w.heap.size → ext' b = st.ext b) (hf : ∀ b, w'.heap.size ≤ b → ext' b = 0)
    {b : Nat} (hb : st.w.heap.size ≤ b) (hb' : b < w'.heap.size) {o : AObj} (hobj : ObjOK w' ext' (st.ι ++ [b]) G (fun _ _ => none) (σ ++ [o]) σ.length b o) :
    ∃ st' : St, st'.w = w' ∧ st'.ext = ext' ∧ st'.ι = st.ι ++ [b] ∧ (∀ x, st'.S x ↔ st.S x ∨ x = b) ∧ st'.L = st.L ∧ OK G an B0 st' ρ (σ ++ [o]) tmps ∧ Step B0 st st' := by
  obtain ⟨hg, hsr⟩ := h.sr.add hn he hf hb hb' hobj
  refine ⟨{ st with w := w', ext := ext', ι := st.ι ++ [b], S := fun x => st.S x ∨ x = b, SL := fun i => if i = σ.length then fun _ => none else st.SL i }, rfl, rfl, rfl, fun _ => Iff.rfl, rfl,
    ⟨h.size, fun t => ?_, h.fits, h.lptr, fun p x hp => ?_, h.inj, fun x hx => Nat.lt_of_lt_of_le (h.base x hx) hn.size, fun x hx => ?_, hsr, h.larr⟩, ⟨hg, hn.size, fun x hx => ?_, hn.os, hn.tape, hn.output⟩⟩
  · refine (h.slot t).keep hg (fun hl => ?_) (fun i hi c hc => ?_)
    · have := (h.priv (.box t) (st.L.β t) ⟨hl, rfl⟩).2.1
      exact ⟨hn.blk _ this, he _ this⟩
    · have := (h.priv (.own t i) c ⟨hi, hc⟩).2.1
      exact ⟨hn.blk _ this, he _ this⟩
  · have := h.priv p x hp
    refine ⟨this.1, Nat.lt_of_lt_of_le this.2.1 hn.size, fun hx => ?_⟩
    rcases hx with hx | rfl
    · exact this.2.2 hx
    · omega
  · rcases hx with hx | rfl
    · exact h.out x hx
    · intro hB; have := h.base x hB; omega
  · exact ⟨hn.blk x (h.base x hx), he x (h.base x hx)⟩

/-- A plain value is made in another world. -/
theorem goal_plain' {v : AV} {c : Value} {st' : St} (h : OK G an B0 st' ρ σ a.tmps) (hst : Step B0 st st') (hf : Fit an (puts o.dst (.val v [])))
    (hr : (execOp a.eval o).run G.P st.w = .ok (.value c) st'.w) (hv : Rep st'.w st'.ext st'.ι v c) : OpGoal G an B0 st a o (apply (puts o.dst (.val v [])) ρ) σ := by
  cases hd : o.dst with
  | none =>
    refine ⟨c, st', .inl hr, ?_, hst⟩
    simpa [puts, apply, hd, Act.put] using h
  | some d =>
    obtain ⟨h1, h2⟩ := hf (d, .val v []) (by simp [puts, hd])
    obtain ⟨L, hL⟩ := h.putPlain h1 (fit_val h2) hv
    refine ⟨c, { st' with L := L }, .inl hr, ?_, ⟨hst.grow, hst.size, hst.blk, hst.os, hst.tape, hst.output⟩⟩
    simpa [puts, apply, hd, put_tmps] using hL

/-- A new shared box. -/
theorem goal_newsh {cs : List AV} {ow : List Nat} {c : Value} {t : TypeId} (h : OK G an B0 st ρ σ a.tmps) (hf : Fit an (puts o.dst (.val (.ptr σ.length 0) [])))
    (hr : (execOp a.eval o).run G.P st.w = .ok (.value (.pointer (some ⟨st.w.heap.size, 0, none⟩))) (st.w.alloc (.cells c.cells t)))
    (hreps : Reps st.w st.ext st.ι cs c.cells.toList) (h1 : ∀ x ∈ c.cells.toList, x.oneCell' = true) (how : ∀ i ∈ ow, ∀ x, c.cells[i]? = some x → ∀ p n cap, x = .slice p n cap → cap = n) :
    OpGoal G an B0 st a o (apply (puts o.dst (.val (.ptr σ.length 0) [])) ρ) (σ ++ [.box cs ow]) := by
  have hnew : Newer st.w (st.w.alloc (.cells c.cells t)) := Newer.alloc _ _
  have hcell : (st.w.alloc (.cells c.cells t)).heap[st.w.heap.size]? = some (.cells c.cells t (0, 0)) := heap_alloc_new st.w _
  have hg0 := hnew.grow h.sr (ext' := st.ext) (fun _ _ => rfl)
  have hg : Grow st.w st.ext st.ι (st.w.alloc (.cells c.cells t)) st.ext (st.ι ++ [st.w.heap.size]) := ⟨hg0.cell, hg0.ext, List.prefix_append _ _⟩
  obtain ⟨st', e1, e2, e3, _, _, hok, hst⟩ := h.add (ext' := st.ext) (o := .box cs ow) hnew (fun _ _ => rfl) (fun b hb => h.sr.fresh b (Nat.le_trans hnew.size hb)) (Nat.le_refl _) (by simp)
    ⟨h.sr.fresh _ (Nat.le_refl _), c.cells, t, hcell, hreps.mono hg, h1, fun i hi aa x _ hx => how i hi x hx⟩
  refine goal_plain' hok hst hf (by rw [e1]; exact hr) (.ptr _ _ _ ?_)
  rw [e3, ← h.sr.len]; simp

/-- A box that never changes. -/
theorem goal_newimm {cs : List AV} {c : Value} {t : TypeId} (h : OK G an B0 st ρ σ a.tmps) (hf : Fit an (puts o.dst (.val (.iptr cs) [])))
    (hr : (execOp a.eval o).run G.P st.w = .ok (.value (.pointer (some ⟨st.w.heap.size, 0, none⟩))) (st.w.alloc (.cells c.cells t)))
    (hreps : Reps st.w st.ext st.ι cs c.cells.toList) (h1 : ∀ x ∈ c.cells.toList, x.oneCell' = true) :
    OpGoal G an B0 st a o (apply (puts o.dst (.val (.iptr cs) [])) ρ) σ := by
  have hnew : Newer st.w (st.w.alloc (.cells c.cells t)) := Newer.alloc _ _
  have hcell : (st.w.alloc (.cells c.cells t)).heap[st.w.heap.size]? = some (.cells c.cells t (0, 0)) := heap_alloc_new st.w _
  let ext' : Nat → Nat := fun b => if b = st.w.heap.size then c.cells.size else st.ext b
  have hext : ∀ b, b < st.w.heap.size → ext' b = st.ext b := fun b hb => by simp only [ext']; rw [if_neg (by omega)]
  have hextn : ext' st.w.heap.size = c.cells.size := by simp [ext']
  obtain ⟨hok, hst⟩ := h.newer hnew hext (fun b hb => by
    have : st.w.heap.size + 1 ≤ b := by simpa using hb
    simp only [ext']; rw [if_neg (by omega)]; exact h.sr.fresh b (by omega))
  have hgrow := hnew.grow h.sr hext
  refine goal_plain' hok hst hf hr (.iptr cs c.cells.toList st.w.heap.size 0 (hreps.mono hgrow) h1 fun i v hi => ?_)
  rw [Nat.zero_add, cell_row hcell]
  show c.cells[i]? = some v ∧ i < ext' st.w.heap.size
  rw [hextn]
  have hlt := (List.getElem?_eq_some_iff.1 hi).1
  exact ⟨by simpa using hi, by simpa using hlt⟩

theorem sound_alloc {t : TypeId} (ho : o.op = .alloc t) (h : OK G E.an B0 st ρ σ a.tmps) (hs : Sub ρm ρ) (hm : ∀ d, o.dst = some d → ∀ p ∈ E.an.into, p.2 = d → ρm p.1 = ρ p.1)
    (hc : core G E o ρm σ = some (ups, σ')) (hf : Fit E.an ups) : OpGoal G E.an B0 st a o (apply ups ρ) σ' := by
  simp only [core, ho, Option.bind_eq_bind, Option.bind_eq_some_iff] at hc
  obtain ⟨zc, hzc, d, hd, hc⟩ := hc
  obtain ⟨it, z, hit, hz, hzt⟩ := zeroC_info hzc
  have hzg := tcells_good (w := st.w) (ext := st.ext) (ι := st.ι) _ _ _ _ hzt
  have hr : (execOp a.eval o).run G.P st.w = .ok (.value (.pointer (some ⟨st.w.heap.size, 0, none⟩))) (st.w.alloc (.cells z.cells t)) := by
    simp [execOp, ho, Instr.alloc, zeroValue, typeInfo, hit, hz, newVar, newRow]
  split at hc
  · split at hc
    · rename_i hno
      simp at hc; obtain ⟨rfl, rfl⟩ := hc
      exact goal_newloc h hd hf (hm d hd) hno hr hzg.1 (fun x hx => (hzg.2.1 x hx).1) (nils_good (w := st.w) (ext := st.ext) (ι := st.ι) hzt)
    · simp at hc
  · simp at hc; obtain ⟨rfl, rfl⟩ := hc
    exact goal_newsh h hf hr hzg.1 (fun x hx => (hzg.2.1 x hx).1) (nils_good (w := st.w) (ext := st.ext) (ι := st.ι) hzt)

theorem sound_box {t : TypeId} {x : Operand} (ho : o.op = .box t x) (h : OK G E.an B0 st ρ σ a.tmps) (hs : Sub ρm ρ) (hm : ∀ d, o.dst = some d → ∀ p ∈ E.an.into, p.2 = d → ρm p.1 = ρ p.1)
    (hc : core G E o ρm σ = some (ups, σ')) (hf : Fit E.an ups) : OpGoal G E.an B0 st a o (apply ups ρ) σ' := by
  simp only [core, ho, Option.bind_eq_bind, Option.bind_eq_some_iff] at hc
  obtain ⟨v, hv, d, hd, hc⟩ := hc
  split at hc
  · simp at hc
  · rename_i hokc
    obtain ⟨o1, o2⟩ := (opv_rep h rfl hs hv).one (eq_true_of_ne_false hokc)
    have hr : (execOp a.eval o).run G.P st.w = .ok (.value (.pointer (some ⟨st.w.heap.size, 0, none⟩))) (st.w.alloc (.cells (a.eval x).cells t)) := by
      simp [execOp, ho, Instr.box, newVar, newRow]
    split at hc
    · split at hc
      · rename_i hno
        simp at hc; obtain ⟨rfl, rfl⟩ := hc
        exact goal_newloc h hd hf (hm d hd) hno hr o2 o1 (by simp)
      · simp at hc
    · split at hc
      · simp at hc; obtain ⟨rfl, rfl⟩ := hc
        exact goal_newimm h hf hr o2 o1
      · simp at hc; obtain ⟨rfl, rfl⟩ := hc
        exact goal_newsh h hf hr o2 o1 (by simp)

end Go.AI
