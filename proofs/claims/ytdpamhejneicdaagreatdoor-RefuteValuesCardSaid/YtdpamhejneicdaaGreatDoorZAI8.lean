/- The abstract machine: worlds that turn at one block. -/
import Derived.Test.YtdpamhejneicdaaGreatDoorZAI7
import Derived.Laws.AppendOwn
import Derived.Great.BuildSlice
namespace Go.AI
set_option linter.unusedVariables false
set_option linter.unusedSimpArgs false
open Go

variable {G : Prg} {an : Ann} {E : EE} {B0 : Nat → Prop} {st : St} {ρ ρm : Env} {σ σ' : Sig} {ups : List (Nat × Slot)} {a : Act} {o : Oper} {tmps : Array Value}

theorem cell_of_heap {w w' : World} {b : Nat} (h : w'.heap[b]? = w.heap[b]?) (o : Nat) : w'.cell? ⟨b, o, none⟩ = w.cell? ⟨b, o, none⟩ := by simp [World.cell?, h]

theorem cell_lt {w : World} {b o : Nat} {v : Value} (h : w.cell? ⟨b, o, none⟩ = some v) : b < w.heap.size := by
  unfold World.cell? at h
  cases hh : w.heap[b]? with
  | none => simp [hh] at h
  | some x => exact (Array.getElem?_eq_some_iff.1 hh).1

/-- New blocks alone. -/
structure Newer (w w' : World) : Prop where
  size : w.heap.size ≤ w'.heap.size
  blk : ∀ b, b < w.heap.size → w'.heap[b]? = w.heap[b]?
  os : w'.os = w.os
  tape : w'.tape = w.tape
  output : w'.output = w.output

theorem Newer.alloc (w : World) (o : Obj) : Newer w (w.alloc o) :=
  ⟨by simp, fun b hb => heap_alloc_old w o b hb, rfl, rfl, rfl⟩
theorem Newer.drew (w : World) : Newer w w.drew := ⟨Nat.le_refl _, fun _ _ => rfl, rfl, rfl, rfl⟩
theorem Newer.refl (w : World) : Newer w w := ⟨Nat.le_refl _, fun _ _ => rfl, rfl, rfl, rfl⟩
theorem Newer.trans {a b c : World} (h : Newer a b) (k : Newer b c) : Newer a c :=
  ⟨Nat.le_trans h.size k.size, fun x hx => (k.blk x (Nat.lt_of_lt_of_le hx h.size)).trans (h.blk x hx), k.os.trans h.os, k.tape.trans h.tape, k.output.trans h.output⟩

theorem ext_lt {w : World} {ext : Nat → Nat} {ι : List Nat} {S : Nat → Prop} {SL : Nat → Nat → Option Nat} (h : SR G w ext ι S SL σ) {b o : Nat} (ho : o < ext b) : b < w.heap.size := by
  rcases Nat.lt_or_ge b w.heap.size with h' | h'
  · exact h'
  · rw [h.fresh b h'] at ho; omega

theorem Newer.grow {w w' : World} {ext ext' : Nat → Nat} {ι : List Nat} {S : Nat → Prop} {SL : Nat → Nat → Option Nat} (hn : Newer w w') (hs : SR G w ext ι S SL σ) (he : ∀ b, b < w.heap.size → ext' b = ext b) : Grow w ext ι w' ext' ι where
  cell := fun b o v ho hc => by rw [cell_of_heap (hn.blk b (ext_lt hs ho))]; exact hc
  ext := fun b => by
    rcases Nat.lt_or_ge b w.heap.size with h' | h'
    · rw [he b h']; exact Nat.le_refl _
    · rw [hs.fresh b h']; exact Nat.zero_le _
  pre := List.prefix_refl _

/-- New blocks alone: all stays. -/
theorem OK.newer (h : OK G an B0 st ρ σ tmps) {w' : World} {ext' : Nat → Nat} (hn : Newer st.w w') (he : ∀ b, b < st.w.heap.size → ext' b = st.ext b) (hf : ∀ b, w'.heap.size ≤ b → ext' b = 0) :
    OK G an B0 { st with w := w', ext := ext' } ρ σ tmps ∧ Step B0 st { st with w := w', ext := ext' } := by
  have hg := hn.grow h.sr he
  refine ⟨⟨h.size, fun t => ?_, h.fits, h.lptr, fun p b hp => ?_, h.inj, fun b hb => Nat.lt_of_lt_of_le (h.base b hb) hn.size, h.out, h.sr.keep hg hn.size (fun b hb => ?_) hf, h.larr⟩, ⟨hg, hn.size, fun b hb => ?_, hn.os, hn.tape, hn.output⟩⟩
  · refine (h.slot t).keep hg (fun hl => ?_) (fun i hi b hb => ?_)
    · have := (h.priv (.box t) (st.L.β t) ⟨hl, rfl⟩).2.1
      exact ⟨hn.blk _ this, he _ this⟩
    · have := (h.priv (.own t i) b ⟨hi, hb⟩).2.1
      exact ⟨hn.blk _ this, he _ this⟩
  · have := h.priv p b hp
    exact ⟨this.1, Nat.lt_of_lt_of_le this.2.1 hn.size, this.2.2⟩
  · have := h.sr.small b hb
    exact ⟨hn.blk _ this, he _ this⟩
  · have h' := h.base b hb
    exact ⟨hn.blk _ h', he _ h'⟩

/-- One block turns, which is a private box or a row of this frame's own (or a shared one, see below): what is elsewhere stays. -/
structure Turn (w w' : World) (k : Nat) : Prop where
  size : w'.heap.size = w.heap.size
  blk : ∀ b, b ≠ k → w'.heap[b]? = w.heap[b]?
  os : w'.os = w.os
  tape : w'.tape = w.tape
  output : w'.output = w.output

theorem Turn.setRow (w : World) (k : Nat) (cs : Array Value) : Turn w (w.setRow k cs) k :=
  ⟨by simp [World.setRow], fun b hb => setRow_other w k b cs hb, rfl, rfl, rfl⟩

theorem Turn.grow {w w' : World} {ext ext' : Nat → Nat} {ι : List Nat} {k : Nat} (ht : Turn w w' k) (he : ∀ b, b ≠ k → ext' b = ext b) (hk : ext k ≤ ext' k)
    (hc : ∀ o v, o < ext k → w.cell? ⟨k, o, none⟩ = some v → w'.cell? ⟨k, o, none⟩ = some v) : Grow w ext ι w' ext' ι where
  cell := fun b o v ho h => by
    by_cases hb : b = k
    · subst hb; exact hc o v ho h
    · rw [cell_of_heap (ht.blk b hb)]; exact h
  ext := fun b => by
    by_cases hb : b = k
    · subst hb; exact hk
    · rw [he b hb]; exact Nat.le_refl _
  pre := List.prefix_refl _

theorem SR.turn {w w' : World} {ext ext' : Nat → Nat} {ι : List Nat} {S : Nat → Prop} {SL : Nat → Nat → Option Nat} {k : Nat} (h : SR G w ext ι S SL σ) (hg : Grow w ext ι w' ext' ι) (ht : Turn w w' k)
    (he : ∀ b, b ≠ k → ext' b = ext b) (hlt : k < w.heap.size) (hS : ¬ S k) : SR G w' ext' ι S SL σ :=
  h.keep hg (by rw [ht.size]; exact Nat.le_refl _) (fun b hb => by
    have : b ≠ k := by rintro rfl; exact hS hb
    exact ⟨ht.blk b this, he b this⟩) (fun b hb => by
    have : b ≠ k := by rintro rfl; rw [ht.size] at hb; omega
    rw [he b this]; exact h.fresh b (by rw [← ht.size]; exact hb))

theorem Step.turn {w' : World} {ext' : Nat → Nat} {L : Lay} {k : Nat} (hg : Grow st.w st.ext st.ι w' ext' st.ι) (ht : Turn st.w w' k) (he : ∀ b, b ≠ k → ext' b = st.ext b) (hB : ¬ B0 k) :
    Step B0 st { st with w := w', ext := ext', L := L } where
  grow := hg
  size := by rw [ht.size]; exact Nat.le_refl _
  blk := fun b hb => by
    have : b ≠ k := by rintro rfl; exact hB hb
    exact ⟨ht.blk b this, he b this⟩
  os := ht.os
  tape := ht.tape
  output := ht.output

theorem cell_row {w : World} {k : Nat} {vs : Array Value} {e : TypeId} {fr : Nat × Nat} (h : w.heap[k]? = some (.cells vs e fr)) (o : Nat) : w.cell? ⟨k, o, none⟩ = vs[o]? := by
  simp [World.cell?, h]

/-- Slots that do not stand on the block that turns. -/
theorem OK.slotTurn (h : OK G an B0 st ρ σ tmps) {w' : World} {ext' : Nat → Nat} {k : Nat} (hg : Grow st.w st.ext st.ι w' ext' st.ι) (ht : Turn st.w w' k) (he : ∀ b, b ≠ k → ext' b = st.ext b)
    {t : Nat} (hn : ∀ p, p.slot = t → ¬ Has st.L ρ p k) : SlotOK w' ext' st.ι st.L t (ρ t) (tmps.getD t undef) := by
  refine (h.slot t).keep hg (fun hl => ?_) (fun i hi b hb => ?_)
  · have : st.L.β t ≠ k := by
      intro e
      exact hn (.box t) rfl ⟨hl, e⟩
    exact ⟨ht.blk _ this, he _ this⟩
  · have : b ≠ k := by
      rintro rfl
      exact hn (.own t i) rfl ⟨hi, hb⟩
    exact ⟨ht.blk _ this, he _ this⟩

theorem OK.top (h : OK G an B0 st ρ σ tmps) : ¬ B0 st.w.heap.size := fun hb => by have := h.base _ hb; omega

/-- A block of this frame's own turns that nobody stands on. -/
theorem OK.turn (h : OK G an B0 st ρ σ tmps) {w' : World} {ext' : Nat → Nat} {k : Nat} (hg : Grow st.w st.ext st.ι w' ext' st.ι) (ht : Turn st.w w' k) (he : ∀ b, b ≠ k → ext' b = st.ext b)
    (hn : ∀ p, ¬ Has st.L ρ p k) (hk : ¬ B0 k ∧ k < st.w.heap.size ∧ ¬ st.S k) : OK G an B0 { st with w := w', ext := ext' } ρ σ tmps ∧ Step B0 st { st with w := w', ext := ext' } :=
  ⟨⟨h.size, fun t => h.slotTurn hg ht he fun p _ => hn p, h.fits, h.lptr, fun p b hp => by have := h.priv p b hp; exact ⟨this.1, by simpa [ht.size] using this.2.1, this.2.2⟩, h.inj, by simpa [ht.size] using h.base, h.out,
    h.sr.turn hg ht he hk.2.1 hk.2.2, h.larr⟩, Step.turn hg ht he hk.1⟩

end Go.AI
