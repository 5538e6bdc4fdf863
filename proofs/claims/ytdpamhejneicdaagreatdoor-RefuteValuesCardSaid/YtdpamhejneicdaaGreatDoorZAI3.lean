/- The abstract machine: what holds of a frame and of the shared boxes; how it is kept. -/
import Derived.Test.YtdpamhejneicdaaGreatDoorZAI2
namespace Go.AI
set_option linter.unusedVariables false
set_option linter.unusedSimpArgs false
open Go

/-- Where a frame's private boxes lie, and the rows that it may append to. -/
structure Lay where
  β : Nat → Nat
  κ : Nat → Nat
  γ : Nat → Nat → Option Nat

def Lay.setγ (L : Lay) (d : Nat) (g : Nat → Option Nat) : Lay := { L with γ := fun t i => if t = d then g i else L.γ t i }
def Lay.setβ (L : Lay) (d b : Nat) : Lay := { L with β := fun t => if t = d then b else L.β t }

inductive Place where
  | box (s : Nat)
  | own (s i : Nat)

def Place.slot : Place → Nat
  | .box s => s
  | .own s _ => s

def Slot.ows : Slot → List Nat
  | .val _ ow => ow
  | .loc _ ow => ow
  | _ => []

def Slot.isLoc : Slot → Bool
  | .loc .. => true
  | .arr .. => true
  | _ => false

def Has (L : Lay) (ρ : Env) : Place → Nat → Prop
  | .box s, b => (ρ s).isLoc = true ∧ L.β s = b
  | .own s i, b => i ∈ (ρ s).ows ∧ L.γ s i = some b

/-- A slice that may be appended to: no room, or a row that ends with it and is nobody else's to grow. -/
def OwnC (w : World) (ext : Nat → Nat) (a : AV) (c : Value) : Option Nat → Prop
  | none => ∀ p n cap, c = .slice p n cap → cap = n
  | some b => ∃ n cap sz es vs e, a = .slice sz es ∧ c = .slice (some ⟨b, 0, none⟩) n cap ∧ ext b = n * sz ∧
      w.heap[b]? = some (.cells vs e (0, 0)) ∧ cap * sz ≤ vs.size

def SlotOK (w : World) (ext : Nat → Nat) (ι : List Nat) (L : Lay) (t : Nat) : Slot → Value → Prop
  | .none, _ => True
  | .val v ow, c => Rep w ext ι v c ∧ ∀ i ∈ ow, ∀ a x, v.cells[i]? = some a → c.cells[i]? = some x → OwnC w ext a x (L.γ t i)
  | .loc cs ow, c => c = .pointer (some ⟨L.β t, 0, none⟩) ∧ ext (L.β t) = 0 ∧ ∃ vs e, w.heap[L.β t]? = some (.cells vs e (0, 0)) ∧ Reps w ext ι cs vs.toList ∧
      (∀ x ∈ vs.toList, x.oneCell' = true) ∧ ∀ i ∈ ow, ∀ a x, cs[i]? = some a → vs[i]? = some x → OwnC w ext a x (L.γ t i)
  | .lptr s off, c => c = .pointer (some ⟨L.β s, off, none⟩)
  | .arr sz es, c => c = .slice (some ⟨L.β t, 0, none⟩) es.length (L.κ t) ∧ es.length ≤ L.κ t ∧ ext (L.β t) = 0 ∧ (∀ e ∈ es, e.cells.length = sz) ∧ ∃ vs e, w.heap[L.β t]? = some (.cells vs e (0, 0)) ∧ L.κ t * sz ≤ vs.size ∧
      Reps w ext ι (es.flatMap AV.cells) (vs.toList.take (es.length * sz)) ∧ ∀ x ∈ vs.toList, x.oneCell' = true
  | .larr s h, c => c = .slice (some ⟨L.β s, 0, none⟩) h (L.κ s)

def AObj.ows : AObj → List Nat
  | .box _ ow => ow
  | _ => []

structure LoopOK (w : World) (ext : Nat → Nat) (ι : List Nat) (G : Prg) (L : ALoop) (b : Nat) : Prop where
  ex : ∃ tmps bd an fn, w.heap[b]? = some (.loop { state := L.state, pending := L.pending, fn, tmps, params := L.params, assign := L.assign, body := L.body, defers := bd }) ∧
    G.ann L.fn = some an ∧ tmps.size = an.ntmps ∧ (∀ t ∈ L.params.toList, t < an.ntmps ∧ an.loc.contains t = false) ∧ regionsOK G an L.assign = true ∧ regionsOK G an L.body = true ∧
    ∀ t, (L.env t).ows = [] ∧ (L.env t).isLoc = false ∧ (∀ s off, L.env t ≠ .lptr s off ∧ L.env t ≠ .larr s off) ∧ (L.env t ≠ .none → fitsSlot an t (L.env t) = true) ∧ ∀ v ow, L.env t = .val v ow → Rep w ext ι v (tmps.getD t undef)

def ObjOK (w : World) (ext : Nat → Nat) (ι : List Nat) (G : Prg) (SL : Nat → Nat → Option Nat) (σ : Sig) (id : Nat) (b : Nat) : AObj → Prop
  | .box cs ow => ext b = 0 ∧ ∃ vs e, w.heap[b]? = some (.cells vs e (0, 0)) ∧ Reps w ext ι cs vs.toList ∧ (∀ x ∈ vs.toList, x.oneCell' = true) ∧
      ∀ i ∈ ow, ∀ a x, cs[i]? = some a → vs[i]? = some x → OwnC w ext a x (SL id i)
  | .loop L => LoopOK w ext ι G L b

structure St where
  w : World
  ext : Nat → Nat
  ι : List Nat
  S : Nat → Prop
  SL : Nat → Nat → Option Nat
  L : Lay

structure SR (G : Prg) (w : World) (ext : Nat → Nat) (ι : List Nat) (S : Nat → Prop) (SL : Nat → Nat → Option Nat) (σ : Sig) : Prop where
  len : ι.length = σ.length
  nodup : ι.Nodup
  obj : ∀ (id : Nat) (o : AObj) (b : Nat), σ[id]? = some o → ι[id]? = some b → ObjOK w ext ι G SL σ id b o
  inS : ∀ b, b ∈ ι → S b
  ownS : ∀ (id : Nat) (o : AObj) (i b : Nat), σ[id]? = some o → i ∈ o.ows → SL id i = some b → S b ∧ b ∉ ι
  inj : ∀ (id : Nat) (o : AObj) (i id' : Nat) (o' : AObj) (i' b : Nat), σ[id]? = some o → i ∈ o.ows → SL id i = some b → σ[id']? = some o' → i' ∈ o'.ows → SL id' i' = some b → id = id' ∧ i = i'
  small : ∀ b, S b → b < w.heap.size
  fresh : ∀ b, w.heap.size ≤ b → ext b = 0
  globals : ∀ (g : Nat) (a : AV), G.gl g = some a → Rep w ext ι a (.pointer (some ⟨g, 0, none⟩))

structure OK (G : Prg) (an : Ann) (B0 : Nat → Prop) (st : St) (ρ : Env) (σ : Sig) (tmps : Array Value) : Prop where
  size : tmps.size = an.ntmps
  slot : ∀ t, SlotOK st.w st.ext st.ι st.L t (ρ t) (tmps.getD t undef)
  fits : ∀ t, ρ t ≠ .none → fitsSlot an t (ρ t) = true
  lptr : ∀ t s off, ρ t = .lptr s off → (ρ s).isLoc = true
  priv : ∀ p b, Has st.L ρ p b → ¬ B0 b ∧ b < st.w.heap.size ∧ ¬ st.S b
  inj : ∀ p q b, Has st.L ρ p b → Has st.L ρ q b → p = q
  base : ∀ b, B0 b → b < st.w.heap.size
  out : ∀ b, st.S b → ¬ B0 b
  sr : SR G st.w st.ext st.ι st.S st.SL σ
  larr : ∀ t s h, ρ t = .larr s h → ∃ sz es, ρ s = .arr sz es ∧ h ≤ es.length

/-- A step of a frame that leaves the blocks of B0 alone. -/
structure Step (B0 : Nat → Prop) (st st' : St) : Prop where
  grow : Grow st.w st.ext st.ι st'.w st'.ext st'.ι
  size : st.w.heap.size ≤ st'.w.heap.size
  blk : ∀ b, B0 b → st'.w.heap[b]? = st.w.heap[b]? ∧ st'.ext b = st.ext b
  os : st'.w.os = st.w.os
  tape : st'.w.tape = st.w.tape
  output : st'.w.output = st.w.output

theorem Step.refl (B0 : Nat → Prop) (st : St) : Step B0 st st := ⟨Grow.refl _ _ _, Nat.le_refl _, fun _ _ => ⟨rfl, rfl⟩, rfl, rfl, rfl⟩
theorem Step.trans {B0 : Nat → Prop} {a b c : St} (h : Step B0 a b) (k : Step B0 b c) : Step B0 a c where
  grow := h.grow.trans k.grow
  size := Nat.le_trans h.size k.size
  blk := fun x hx => ⟨(k.blk x hx).1.trans (h.blk x hx).1, (k.blk x hx).2.trans (h.blk x hx).2⟩
  os := k.os.trans h.os
  tape := k.tape.trans h.tape
  output := k.output.trans h.output
theorem Step.weaken {B0 B1 : Nat → Prop} {a b : St} (hB : ∀ x, B0 x → B1 x) (h : Step B1 a b) : Step B0 a b :=
  ⟨h.grow, h.size, fun x hx => h.blk x (hB x hx), h.os, h.tape, h.output⟩

/-! ### What is untouched stays -/

theorem OwnC.keep {w w' : World} {ext ext' : Nat → Nat} {a : AV} {c : Value} {g : Option Nat} (h : OwnC w ext a c g)
    (hk : ∀ b, g = some b → w'.heap[b]? = w.heap[b]? ∧ ext' b = ext b) : OwnC w' ext' a c g := by
  cases g with
  | none => exact h
  | some b =>
    obtain ⟨n, cap, sz, es, vs, e, h1, h2, h3, h4, h5⟩ := h
    obtain ⟨k1, k2⟩ := hk b rfl
    exact ⟨n, cap, sz, es, vs, e, h1, h2, by rw [k2, h3], by rw [k1, h4], h5⟩

theorem SlotOK.keep {w w' : World} {ext ext' : Nat → Nat} {ι ι' : List Nat} {L : Lay} {t : Nat} {s : Slot} {c : Value} (h : SlotOK w ext ι L t s c) (hg : Grow w ext ι w' ext' ι')
    (hb : s.isLoc = true → w'.heap[L.β t]? = w.heap[L.β t]? ∧ ext' (L.β t) = ext (L.β t))
    (ho : ∀ i ∈ s.ows, ∀ b, L.γ t i = some b → w'.heap[b]? = w.heap[b]? ∧ ext' b = ext b) : SlotOK w' ext' ι' L t s c := by
  cases s with
  | none => trivial
  | val v ow => exact ⟨h.1.mono hg, fun i hi a x ha hx => (h.2 i hi a x ha hx).keep (ho i hi)⟩
  | loc cs ow =>
    obtain ⟨h1, h2, vs, e, h3, h4, h5, h6⟩ := h
    obtain ⟨k1, k2⟩ := hb rfl
    exact ⟨h1, by rw [k2, h2], vs, e, by rw [k1, h3], h4.mono hg, h5, fun i hi a x ha hx => (h6 i hi a x ha hx).keep (ho i hi)⟩
  | lptr s off => exact h
  | arr sz es =>
    obtain ⟨h1, h2, h3, h4, vs, e, h5, h6, h7, h8⟩ := h
    obtain ⟨k1, k2⟩ := hb rfl
    exact ⟨h1, h2, by rw [k2, h3], h4, vs, e, by rw [k1, h5], h6, h7.mono hg, h8⟩
  | larr s n => exact h

theorem SlotOK.lay {w : World} {ext : Nat → Nat} {ι : List Nat} {L L' : Lay} {t : Nat} {s : Slot} {c : Value} (h : SlotOK w ext ι L t s c)
    (hb : s.isLoc = true → L'.β t = L.β t) (hl : ∀ s' off, s = .lptr s' off → L'.β s' = L.β s') (ho : ∀ i ∈ s.ows, L'.γ t i = L.γ t i)
    (hκ : s.isLoc = true → L'.κ t = L.κ t := by intros; rfl) (hl2 : ∀ s' n, s = .larr s' n → L'.β s' = L.β s' ∧ L'.κ s' = L.κ s' := by intros; exact ⟨rfl, rfl⟩) : SlotOK w ext ι L' t s c := by
  cases s with
  | none => trivial
  | val v ow => exact ⟨h.1, fun i hi a x ha hx => by rw [ho i hi]; exact h.2 i hi a x ha hx⟩
  | loc cs ow =>
    obtain ⟨h1, h2, vs, e, h3, h4, h5, h6⟩ := h
    have := hb rfl
    exact ⟨by rw [this]; exact h1, by rw [this]; exact h2, vs, e, by rw [this]; exact h3, h4, h5, fun i hi a x ha hx => by rw [ho i hi]; exact h6 i hi a x ha hx⟩
  | lptr s off => simp only [SlotOK] at h ⊢; rw [hl s off rfl]; exact h
  | arr sz es =>
    obtain ⟨h1, h2, h3, h4, vs, e, h5, h6, h7, h8⟩ := h
    have := hb rfl
    have h' := hκ rfl
    exact ⟨by rw [this, h']; exact h1, by rw [h']; exact h2, by rw [this]; exact h3, h4, vs, e, by rw [this]; exact h5, by rw [h']; exact h6, h7, h8⟩
  | larr s n => simp only [SlotOK] at h ⊢; rw [(hl2 s n rfl).1, (hl2 s n rfl).2]; exact h

theorem ObjOK.keep {w w' : World} {ext ext' : Nat → Nat} {ι ι' : List Nat} {G : Prg} {SL : Nat → Nat → Option Nat} {σ σ' : Sig} {id b : Nat} {o : AObj} (h : ObjOK w ext ι G SL σ id b o) (hg : Grow w ext ι w' ext' ι')
    (hb : w'.heap[b]? = w.heap[b]? ∧ ext' b = ext b)
    (ho : ∀ i ∈ o.ows, ∀ c, SL id i = some c → w'.heap[c]? = w.heap[c]? ∧ ext' c = ext c) : ObjOK w' ext' ι' G SL σ' id b o := by
  cases o with
  | box cs ow =>
    obtain ⟨h2, vs, e, h3, h4, h5, h6⟩ := h
    exact ⟨by rw [hb.2, h2], vs, e, by rw [hb.1, h3], h4.mono hg, h5, fun i hi a x ha hx => (h6 i hi a x ha hx).keep (ho i hi)⟩
  | loop L =>
    obtain ⟨tmps, bd, an, fn, h1, h2, h3, h4, h4', h6, h5⟩ := h.ex
    exact ⟨tmps, bd, an, fn, by rw [hb.1]; exact h1, h2, h3, h4, h4', h6, fun t => ⟨(h5 t).1, (h5 t).2.1, (h5 t).2.2.1, (h5 t).2.2.2.1, fun v ow hv => ((h5 t).2.2.2.2 v ow hv).mono hg⟩⟩

/-- The shared boxes stay, where nothing of theirs is touched. -/
theorem SR.keep {G : Prg} {w w' : World} {ext ext' : Nat → Nat} {ι : List Nat} {S : Nat → Prop} {SL : Nat → Nat → Option Nat} {σ : Sig} (h : SR G w ext ι S SL σ) (hg : Grow w ext ι w' ext' ι)
    (hs : w.heap.size ≤ w'.heap.size) (hb : ∀ b, S b → w'.heap[b]? = w.heap[b]? ∧ ext' b = ext b) (hf : ∀ b, w'.heap.size ≤ b → ext' b = 0) : SR G w' ext' ι S SL σ where
  len := h.len
  nodup := h.nodup
  obj := fun id o b ho hi => (h.obj id o b ho hi).keep hg (hb b (h.inS b (List.mem_of_getElem? hi))) fun i hi' c hc => hb c (h.ownS id o i c ho hi' hc).1
  inS := h.inS
  ownS := h.ownS
  inj := h.inj
  small := fun b hb => Nat.lt_of_lt_of_le (h.small b hb) hs
  fresh := hf
  globals := fun g a ha => (h.globals g a ha).mono hg

/-! ### One slot is set -/

theorem upd_same (ρ : Env) (t : Nat) (s : Slot) : upd ρ t s t = s := by simp [upd]
theorem upd_other (ρ : Env) (t : Nat) (s : Slot) {u : Nat} (h : u ≠ t) : upd ρ t s u = ρ u := by simp [upd, h]

theorem fits_loc {an : Ann} {t : Nat} {s : Slot} (h : fitsSlot an t s = true) : s.isLoc = an.loc.contains t ∨ s = .none := by
  cases s <;> simp_all [fitsSlot, Slot.isLoc]

variable {G : Prg} {an : Ann} {B0 : Nat → Prop} {st : St} {ρ : Env} {σ : Sig} {tmps : Array Value}

/-- A right to append is given up. -/
theorem OK.clear (h : OK G an B0 st ρ σ tmps) {x : Nat} {s : Slot} (hs : (∃ v ow ow', ρ x = .val v ow ∧ s = .val v ow' ∧ ∀ i ∈ ow', i ∈ ow) ∨ (∃ cs ow ow', ρ x = .loc cs ow ∧ s = .loc cs ow' ∧ ∀ i ∈ ow', i ∈ ow)) :
    OK G an B0 st (upd ρ x s) σ tmps := by
  have hloc : s.isLoc = (ρ x).isLoc := by rcases hs with ⟨v, ow, ow', h1, h2, _⟩ | ⟨v, ow, ow', h1, h2, _⟩ <;> rw [h1, h2] <;> rfl
  have hows : ∀ i ∈ s.ows, i ∈ (ρ x).ows := by rcases hs with ⟨v, ow, ow', h1, h2, h3⟩ | ⟨v, ow, ow', h1, h2, h3⟩ <;> rw [h1, h2] <;> exact h3
  have hhas : ∀ p b, Has st.L (upd ρ x s) p b → Has st.L ρ p b := by
    intro p b hp
    cases p with
    | box t =>
      by_cases ht : t = x
      · subst ht; simp only [Has, upd_same] at hp ⊢; rw [← hloc]; exact hp
      · simpa only [Has, upd_other _ _ _ ht] using hp
    | own t i =>
      by_cases ht : t = x
      · subst ht; simp only [Has, upd_same] at hp ⊢; exact ⟨hows i hp.1, hp.2⟩
      · simpa only [Has, upd_other _ _ _ ht] using hp
  refine ⟨h.size, fun t => ?_, fun t => ?_, fun t s' off ht => ?_, fun p b hp => h.priv p b (hhas p b hp), fun p q b hp hq => h.inj p q b (hhas p b hp) (hhas q b hq), h.base, h.out, h.sr, fun t s' n ht => ?_⟩
  · by_cases ht : t = x
    · subst ht
      rw [upd_same]
      have := h.slot t
      rcases hs with ⟨v, ow, ow', h1, h2, h3⟩ | ⟨v, ow, ow', h1, h2, h3⟩
      · rw [h1] at this; rw [h2]; exact ⟨this.1, fun i hi => this.2 i (h3 i hi)⟩
      · rw [h1] at this; rw [h2]
        obtain ⟨k1, k2, vs, e, k3, k4, k5, k6⟩ := this
        exact ⟨k1, k2, vs, e, k3, k4, k5, fun i hi => k6 i (h3 i hi)⟩
    · rw [upd_other _ _ _ ht]; exact h.slot t
  · by_cases ht : t = x
    · subst ht
      rw [upd_same]
      intro _
      have := h.fits t
      rcases hs with ⟨v, ow, ow', h1, h2, h3⟩ | ⟨v, ow, ow', h1, h2, h3⟩
      · rw [h1] at this; rw [h2]; simpa [fitsSlot] using this (by simp)
      · rw [h1] at this; rw [h2]; simpa [fitsSlot] using this (by simp)
    · rw [upd_other _ _ _ ht]; exact h.fits t
  · have hne : t ≠ x := by
      rintro rfl
      rw [upd_same] at ht
      rcases hs with ⟨v, ow, ow', h1, h2, h3⟩ | ⟨v, ow, ow', h1, h2, h3⟩ <;> rw [h2] at ht <;> cases ht
    rw [upd_other _ _ _ hne] at ht
    have := h.lptr t s' off ht
    by_cases hx : s' = x
    · subst hx; rw [upd_same, hloc]; exact this
    · rw [upd_other _ _ _ hx]; exact this
  · have hne : t ≠ x := by
      rintro rfl
      rw [upd_same] at ht
      rcases hs with ⟨v, ow, ow', h1, h2, h3⟩ | ⟨v, ow, ow', h1, h2, h3⟩ <;> rw [h2] at ht <;> cases ht
    rw [upd_other _ _ _ hne] at ht
    obtain ⟨sz, es, h4, h5⟩ := h.larr t s' n ht
    have hx : s' ≠ x := by
      rintro rfl
      rcases hs with ⟨v, ow, ow', h1, h2, h3⟩ | ⟨v, ow, ow', h1, h2, h3⟩ <;> rw [h1] at h4 <;> cases h4
    exact ⟨sz, es, by rw [upd_other _ _ _ hx]; exact h4, h5⟩

theorem getD_set (tmps : Array Value) (d : Nat) (c : Value) (hd : d < tmps.size) (t : Nat) : (tmps.setIfInBounds d c).getD t undef = if t = d then c else tmps.getD t undef := by
  by_cases h : t = d
  · subst h; simp [Array.getD_eq_getD_getElem?, hd]
  · simp only [Array.getD_eq_getD_getElem?, h, if_false]
    rw [Array.getElem?_setIfInBounds]
    simp [Ne.symm h]

/-- A temporary gets a value (no private box stands there). -/
theorem OK.put (h : OK G an B0 st ρ σ tmps) {d : Nat} {v : AV} {ow : List Nat} {c : Value} (hd : d < an.ntmps) (hl : an.loc.contains d = false) (g : Nat → Option Nat)
    (hr : Rep st.w st.ext st.ι v c) (ho : ∀ i ∈ ow, ∀ a x, v.cells[i]? = some a → c.cells[i]? = some x → OwnC st.w st.ext a x (g i))
    (hp : ∀ i ∈ ow, ∀ b, g i = some b → ¬ B0 b ∧ b < st.w.heap.size ∧ ¬ st.S b)
    (hn : ∀ i ∈ ow, ∀ b, g i = some b → ∀ p, p.slot ≠ d → ¬ Has st.L ρ p b)
    (hi : ∀ i ∈ ow, ∀ j ∈ ow, ∀ b, g i = some b → g j = some b → i = j) :
    OK G an B0 { st with L := st.L.setγ d g } (upd ρ d (.val v ow)) σ (tmps.setIfInBounds d c) := by
  have hd' : d < tmps.size := by rw [h.size]; exact hd
  have hnl : (ρ d).isLoc = false := by
    by_cases hn : ρ d = .none
    · rw [hn]; rfl
    · rcases fits_loc (h.fits d hn) with h1 | h1
      · rw [h1]; exact hl
      · exact absurd h1 hn
  have hhas : ∀ p b, p.slot ≠ d → (Has (st.L.setγ d g) (upd ρ d (.val v ow)) p b ↔ Has st.L ρ p b) := by
    intro p b hp
    cases p with
    | box t => simp only [Place.slot] at hp; simp [Has, upd_other _ _ _ hp, Lay.setγ]
    | own t i => simp only [Place.slot] at hp; simp [Has, upd_other _ _ _ hp, Lay.setγ, hp]
  have hd2 : ∀ p b, p.slot = d → Has (st.L.setγ d g) (upd ρ d (.val v ow)) p b → ∃ i, p = .own d i ∧ i ∈ ow ∧ g i = some b := by
    intro p b hp hh
    cases p with
    | box t => simp only [Place.slot] at hp; subst hp; simp [Has, upd_same, Slot.isLoc] at hh
    | own t i => simp only [Place.slot] at hp; subst hp; simp [Has, upd_same, Slot.ows, Lay.setγ] at hh; exact ⟨i, rfl, hh.1, hh.2⟩
  refine ⟨by simpa using h.size, fun t => ?_, fun t => ?_, fun t s off ht => ?_, fun p b hh => ?_, fun p q b hh hq => ?_, h.base, h.out, h.sr, fun t s n ht => ?_⟩
  · rw [getD_set _ _ _ hd']
    by_cases ht : t = d
    · subst ht
      rw [upd_same, if_pos rfl]
      exact ⟨hr, fun i hi a x ha hx => by simpa [Lay.setγ] using ho i hi a x ha hx⟩
    · rw [upd_other _ _ _ ht, if_neg ht]
      exact (h.slot t).lay (fun _ => rfl) (fun _ _ _ => rfl) fun i _ => by simp [Lay.setγ, ht]
  · by_cases ht : t = d
    · subst ht; rw [upd_same]; intro _; simp only [fitsSlot, hl]; rfl
    · rw [upd_other _ _ _ ht]; exact h.fits t
  · have hne : t ≠ d := by rintro rfl; rw [upd_same] at ht; cases ht
    rw [upd_other _ _ _ hne] at ht
    have := h.lptr t s off ht
    have hsd : s ≠ d := by rintro rfl; rw [hnl] at this; cases this
    rw [upd_other _ _ _ hsd]; exact this
  · by_cases hs : p.slot = d
    · obtain ⟨i, rfl, hi1, hi2⟩ := hd2 p b hs hh
      exact hp i hi1 b hi2
    · exact h.priv p b ((hhas p b hs).1 hh)
  · by_cases hs : p.slot = d <;> by_cases hs' : q.slot = d
    · obtain ⟨i, rfl, hi1, hi2⟩ := hd2 p b hs hh
      obtain ⟨j, rfl, hj1, hj2⟩ := hd2 q b hs' hq
      rw [hi i hi1 j hj1 b hi2 hj2]
    · obtain ⟨i, rfl, hi1, hi2⟩ := hd2 p b hs hh
      exact absurd ((hhas q b hs').1 hq) (hn i hi1 b hi2 q hs')
    · obtain ⟨i, rfl, hi1, hi2⟩ := hd2 q b hs' hq
      exact absurd ((hhas p b hs).1 hh) (hn i hi1 b hi2 p hs)
    · exact h.inj p q b ((hhas p b hs).1 hh) ((hhas q b hs').1 hq)
  · have hne : t ≠ d := by rintro rfl; rw [upd_same] at ht; cases ht
    rw [upd_other _ _ _ hne] at ht
    obtain ⟨sz, es, h4, h5⟩ := h.larr t s n ht
    have hsd : s ≠ d := by rintro rfl; rw [h4] at hnl; cases hnl
    exact ⟨sz, es, by rw [upd_other _ _ _ hsd]; exact h4, h5⟩

/-- A plain value: no right to append. -/
theorem OK.putPlain (h : OK G an B0 st ρ σ tmps) {d : Nat} {v : AV} {c : Value} (hd : d < an.ntmps) (hl : an.loc.contains d = false) (hr : Rep st.w st.ext st.ι v c) :
    ∃ L, OK G an B0 { st with L := L } (upd ρ d (.val v [])) σ (tmps.setIfInBounds d c) :=
  ⟨_, h.put hd hl (fun _ => none) hr (fun _ hi => by cases hi) (fun _ hi => by cases hi) (fun _ hi => by cases hi) (fun _ hi => by cases hi)⟩

end Go.AI
