/- The abstract machine: what abstract values say of values in a world. -/
import Derived.Test.YtdpamhejneicdaaGreatDoorZAI1
import Derived.Laws.Cells
import Derived.Laws.CopyRow
import Derived.Laws.Rows
import Derived.Laws.Tables
import Derived.Below
namespace Go.AI
set_option linter.unusedVariables false
set_option linter.unusedSimpArgs false
open Go

mutual
inductive Rep (w : World) (ext : Nat → Nat) (ι : List Nat) : AV → Value → Prop
  | any (v : Value) : Rep w ext ι .any v
  | int (k : IntKind) (n : Int) : Rep w ext ι (.int k n) (.int k n)
  | bool (b : Bool) : Rep w ext ι (.bool b) (.bool b)
  | str (s : ByteArray) : Rep w ext ι (.str s) (.string s)
  | nilp : Rep w ext ι .nilp (.pointer none)
  | ptr (id off b : Nat) : ι[id]? = some b → Rep w ext ι (.ptr id off) (.pointer (some ⟨b, off, none⟩))
  | iptr (cs : List AV) (vs : List Value) (b off : Nat) : Reps w ext ι cs vs → (∀ x ∈ vs, x.oneCell' = true) →
      (∀ i v, vs[i]? = some v → w.cell? ⟨b, off + i, none⟩ = some v ∧ off + i < ext b) → Rep w ext ι (.iptr cs) (.pointer (some ⟨b, off, none⟩))
  | slice (sz : Nat) (es : List AV) (a : Option Addr) (n cap : Nat) (vs : List Value) : n = es.length → n ≤ cap → (∀ e ∈ es, e.cells.length = sz) →
      Reps w ext ι (es.flatMap AV.cells) vs → (∀ x ∈ vs, x.oneCell' = true) →
      (vs = [] ∨ ∃ b off, a = some ⟨b, off, none⟩ ∧ ∀ i v, vs[i]? = some v → w.cell? ⟨b, off + i, none⟩ = some v ∧ off + i < ext b) →
      Rep w ext ι (.slice sz es) (.slice a n cap)
  | nilFunc : Rep w ext ι .nilFunc .nilFunc
  | func (g : FuncId) (first cap : List AV) (f c : Array Value) : Reps w ext ι first f.toList → Reps w ext ι cap c.toList → Rep w ext ι (.func g first cap) (.func (.func g) f c)
  | yield (id b : Nat) : ι[id]? = some b → Rep w ext ι (.yield id) (.func (.yield b) #[] #[])
  | nilIface : Rep w ext ι .nilIface .nilIface
  | iface (t : TypeId) (v : AV) (v' : Value) : Rep w ext ι v v' → Rep w ext ι (.iface t v) (.iface t v')
  | nilMap : Rep w ext ι .nilMap (.map none)
  | agg (cs : List AV) (vs : Array Value) : Reps w ext ι cs vs.toList → (∀ v ∈ vs.toList, v.oneCell' = true) → Rep w ext ι (.agg cs) (.agg vs)
  | tuple (cs : List AV) (vs : Array Value) : Reps w ext ι cs vs.toList → Rep w ext ι (.tuple cs) (.tuple vs)
inductive Reps (w : World) (ext : Nat → Nat) (ι : List Nat) : List AV → List Value → Prop
  | nil : Reps w ext ι [] []
  | cons (a : AV) (v : Value) (as : List AV) (vs : List Value) : Rep w ext ι a v → Reps w ext ι as vs → Reps w ext ι (a :: as) (v :: vs)
end

structure Grow (w : World) (ext : Nat → Nat) (ι : List Nat) (w' : World) (ext' : Nat → Nat) (ι' : List Nat) : Prop where
  cell : ∀ b o v, o < ext b → w.cell? ⟨b, o, none⟩ = some v → w'.cell? ⟨b, o, none⟩ = some v
  ext : ∀ b, ext b ≤ ext' b
  pre : ι <+: ι'

theorem Grow.refl (w : World) (ext : Nat → Nat) (ι : List Nat) : Grow w ext ι w ext ι := ⟨fun _ _ _ _ h => h, fun _ => Nat.le_refl _, List.prefix_refl _⟩
theorem Grow.trans {w w1 w2 : World} {ext ext1 ext2 : Nat → Nat} {ι ι1 ι2 : List Nat} (h : Grow w ext ι w1 ext1 ι1) (k : Grow w1 ext1 ι1 w2 ext2 ι2) : Grow w ext ι w2 ext2 ι2 :=
  ⟨fun b o v ho hc => k.cell b o v (Nat.lt_of_lt_of_le ho (h.ext b)) (h.cell b o v ho hc), fun b => Nat.le_trans (h.ext b) (k.ext b), h.pre.trans k.pre⟩

theorem pre_get {ι ι' : List Nat} (h : ι <+: ι') {i b : Nat} (hi : ι[i]? = some b) : ι'[i]? = some b := by
  obtain ⟨t, rfl⟩ := h
  rw [List.getElem?_append_left (List.getElem?_eq_some_iff.1 hi).1]; exact hi

theorem flatL_append (a b : List AV) : AV.flatL (a ++ b) = (AV.flatL a && AV.flatL b) := by
  induction a with
  | nil => simp [AV.flatL]
  | cons x a ih => simp [AV.flatL, ih, Bool.and_assoc]

theorem flat_cells {v : AV} (h : v.flat = true) : AV.flatL v.cells = true := by
  cases v <;> simp_all [AV.cells, AV.flatL, AV.flat]

theorem flatL_flatMap {es : List AV} (h : AV.flatL es = true) : AV.flatL (es.flatMap AV.cells) = true := by
  induction es with
  | nil => simp [AV.flatL]
  | cons x a ih =>
    simp only [AV.flatL, Bool.and_eq_true] at h
    simp [flatL_append, flat_cells h.1, ih h.2]

section
variable {w w' : World} {ext ext' : Nat → Nat} {ι ι' : List Nat}

mutual
theorem Rep.mono (hg : Grow w ext ι w' ext' ι') {a : AV} {v : Value} : Rep w ext ι a v → Rep w' ext' ι' a v
  | .any v => .any v
  | .int k n => .int k n
  | .bool b => .bool b
  | .str s => .str s
  | .nilp => .nilp
  | .ptr id off b h => .ptr id off b (pre_get hg.pre h)
  | .iptr cs vs b off hr h1 hc => .iptr cs vs b off (hr.mono hg) h1 fun i v hi => ⟨hg.cell _ _ _ (hc i v hi).2 (hc i v hi).1, Nat.lt_of_lt_of_le (hc i v hi).2 (hg.ext b)⟩
  | .slice sz es a n cap vs h1 h2 h3 hr h4 hc => .slice sz es a n cap vs h1 h2 h3 (hr.mono hg) h4 (hc.imp id fun ⟨b, off, ha, hc⟩ =>
      ⟨b, off, ha, fun i v hi => ⟨hg.cell _ _ _ (hc i v hi).2 (hc i v hi).1, Nat.lt_of_lt_of_le (hc i v hi).2 (hg.ext b)⟩⟩)
  | .nilFunc => .nilFunc
  | .func g first cap f c h1 h2 => .func g first cap f c (h1.mono hg) (h2.mono hg)
  | .yield id b h => .yield id b (pre_get hg.pre h)
  | .nilIface => .nilIface
  | .iface t v v' h => .iface t v v' (h.mono hg)
  | .nilMap => .nilMap
  | .agg cs vs h h1 => .agg cs vs (h.mono hg) h1
  | .tuple cs vs h => .tuple cs vs (h.mono hg)
theorem Reps.mono (hg : Grow w ext ι w' ext' ι') {as : List AV} {vs : List Value} : Reps w ext ι as vs → Reps w' ext' ι' as vs
  | .nil => .nil
  | .cons a v as vs h hs => .cons a v as vs (h.mono hg) (hs.mono hg)
end

mutual
theorem Rep.flatι {a : AV} {v : Value} (ι' : List Nat) : Rep w ext ι a v → a.flat = true → Rep w ext ι' a v
  | .any v, _ => .any v
  | .int k n, _ => .int k n
  | .bool b, _ => .bool b
  | .str s, _ => .str s
  | .nilp, _ => .nilp
  | .ptr id off b h, hf => by simp [AV.flat] at hf
  | .iptr cs vs b off hr h1 hc, hf => .iptr cs vs b off (hr.flatι ι' (by simpa [AV.flat] using hf)) h1 hc
  | .slice sz es a n cap vs h1 h2 h3 hr h4 hc, hf => .slice sz es a n cap vs h1 h2 h3 (hr.flatι ι' (flatL_flatMap (by simpa [AV.flat] using hf))) h4 hc
  | .nilFunc, _ => .nilFunc
  | .func g first cap f c h1 h2, hf => by
    simp only [AV.flat, Bool.and_eq_true] at hf
    exact .func g first cap f c (h1.flatι ι' hf.1) (h2.flatι ι' hf.2)
  | .yield id b h, hf => by simp [AV.flat] at hf
  | .nilIface, _ => .nilIface
  | .iface t v v' h, hf => .iface t v v' (h.flatι ι' (by simpa [AV.flat] using hf))
  | .nilMap, _ => .nilMap
  | .agg cs vs h h1, hf => .agg cs vs (h.flatι ι' (by simpa [AV.flat] using hf)) h1
  | .tuple cs vs h, hf => .tuple cs vs (h.flatι ι' (by simpa [AV.flat] using hf))
theorem Reps.flatι {as : List AV} {vs : List Value} (ι' : List Nat) : Reps w ext ι as vs → AV.flatL as = true → Reps w ext ι' as vs
  | .nil, _ => .nil
  | .cons a v as vs h hs, hf => by
    simp only [AV.flatL, Bool.and_eq_true] at hf
    exact .cons a v as vs (h.flatι ι' hf.1) (hs.flatι ι' hf.2)
end


theorem Reps.length {as : List AV} {vs : List Value} (h : Reps w ext ι as vs) : as.length = vs.length := by
  induction as generalizing vs with
  | nil => cases h; rfl
  | cons a as ih => cases h with | cons _ v _ vs h hs => simp [ih hs]

theorem Reps.get {as : List AV} {vs : List Value} (h : Reps w ext ι as vs) {i : Nat} {a : AV} (hi : as[i]? = some a) : ∃ v, vs[i]? = some v ∧ Rep w ext ι a v := by
  induction as generalizing vs i with
  | nil => simp at hi
  | cons x as ih =>
    cases h with
    | cons _ v _ vs h hs =>
      cases i with
      | zero => simp at hi; subst hi; exact ⟨v, rfl, h⟩
      | succ i => simpa using ih hs (by simpa using hi)

theorem Reps.append {as bs : List AV} {vs us : List Value} (h : Reps w ext ι as vs) (k : Reps w ext ι bs us) : Reps w ext ι (as ++ bs) (vs ++ us) := by
  induction as generalizing vs with
  | nil => cases h; exact k
  | cons a as ih => cases h with | cons _ v _ vs h hs => exact .cons _ _ _ _ h (ih hs)

theorem Reps.take {as : List AV} {vs : List Value} (h : Reps w ext ι as vs) (n : Nat) : Reps w ext ι (as.take n) (vs.take n) := by
  induction as generalizing vs n with
  | nil => cases h; simp; exact .nil
  | cons a as ih =>
    cases h with
    | cons _ v _ vs h hs =>
      cases n with
      | zero => exact .nil
      | succ n => exact .cons _ _ _ _ h (ih hs n)

theorem Reps.drop {as : List AV} {vs : List Value} (h : Reps w ext ι as vs) (n : Nat) : Reps w ext ι (as.drop n) (vs.drop n) := by
  induction as generalizing vs n with
  | nil => cases h; simp; exact .nil
  | cons a as ih =>
    cases h with
    | cons _ v _ vs h hs =>
      cases n with
      | zero => exact .cons _ _ _ _ h hs
      | succ n => exact ih hs n

theorem Reps.splice {as bs : List AV} {vs us : List Value} (h : Reps w ext ι as vs) (k : Reps w ext ι bs us) (off : Nat) :
    Reps w ext ι (AI.splice as off bs) (vs.take off ++ us ++ vs.drop (off + us.length)) := by
  unfold AI.splice
  rw [k.length]
  exact ((h.take off).append k).append (h.drop _)

theorem Reps.split {as bs : List AV} {vs : List Value} (h : Reps w ext ι (as ++ bs) vs) : ∃ us ts, vs = us ++ ts ∧ Reps w ext ι as us ∧ Reps w ext ι bs ts := by
  have := h.take as.length
  have h2 := h.drop as.length
  simp at this h2
  exact ⟨_, _, (List.take_append_drop as.length vs).symm, this, h2⟩

theorem Rep.one {a : AV} {v : Value} (h : Rep w ext ι a v) (ho : a.okc = true) : (∀ c ∈ v.cells.toList, c.oneCell' = true) ∧ Reps w ext ι a.cells v.cells.toList := by
  have hh := h
  cases h with
  | any v => simp [AV.okc] at ho
  | tuple => simp [AV.okc] at ho
  | agg cs vs h h1 => exact ⟨h1, h⟩
  | _ => exact ⟨by simp [Value.cells, Value.oneCell'], .cons _ _ _ _ hh .nil⟩

theorem Rep.notAgg {a : AV} {v : Value} (h : Rep w ext ι a v) (ho : a.okc = true) (hn : ∀ cs, a ≠ .agg cs) : v.oneCell' = true ∧ v.cells = #[v] ∧ a.cells = [a] := by
  cases h <;> simp_all [AV.okc, AV.cells, Value.cells, Value.oneCell']

end
end Go.AI

/- The abstract machine: what holds of a frame and of the shared boxes; how it is kept. -/
namespace Go.AI
set_option linter.unusedVariables false
set_option linter.unusedSimpArgs false
open Go

/-- Where a frame's private boxes lie, and the rows that it may append to. -/
structure Lay where
  β : Nat → Nat
  κ : Nat → Nat
  γ : Nat → Nat → Option Nat

def Lay.setγ (L : Lay) (d : Nat) (g : Nat → Option Nat) : Lay := { L with γ := fun t i => if t = d then g i else L.γ t i }
def Lay.setβ (L : Lay) (d b : Nat) : Lay := { L with β := fun t => if t = d then b else L.β t }

inductive Place where
  | box (s : Nat)
  | own (s i : Nat)

def Place.slot : Place → Nat
  | .box s => s
  | .own s _ => s

def Slot.ows : Slot → List Nat
  | .val _ ow => ow
  | .loc _ ow => ow
  | _ => []

def Slot.isLoc : Slot → Bool
  | .loc .. => true
  | .arr .. => true
  | _ => false

def Has (L : Lay) (ρ : Env) : Place → Nat → Prop
  | .box s, b => (ρ s).isLoc = true ∧ L.β s = b
  | .own s i, b => i ∈ (ρ s).ows ∧ L.γ s i = some b

/-- A slice that may be appended to: no room, or a row that ends with it and is nobody else's to grow. -/
def OwnC (w : World) (ext : Nat → Nat) (a : AV) (c : Value) : Option Nat → Prop
  | none => ∀ p n cap, c = .slice p n cap → cap = n
  | some b => ∃ n cap sz es vs e, a = .slice sz es ∧ c = .slice (some ⟨b, 0, none⟩) n cap ∧ ext b = n * sz ∧
      w.heap[b]? = some (.cells vs e (0, 0)) ∧ cap * sz ≤ vs.size

def SlotOK (w : World) (ext : Nat → Nat) (ι : List Nat) (L : Lay) (t : Nat) : Slot → Value → Prop
  | .none, _ => True
  | .val v ow, c => Rep w ext ι v c ∧ ∀ i ∈ ow, ∀ a x, v.cells[i]? = some a → c.cells[i]? = some x → OwnC w ext a x (L.γ t i)
  | .loc cs ow, c => c = .pointer (some ⟨L.β t, 0, none⟩) ∧ ext (L.β t) = 0 ∧ ∃ vs e, w.heap[L.β t]? = some (.cells vs e (0, 0)) ∧ Reps w ext ι cs vs.toList ∧
      (∀ x ∈ vs.toList, x.oneCell' = true) ∧ ∀ i ∈ ow, ∀ a x, cs[i]? = some a → vs[i]? = some x → OwnC w ext a x (L.γ t i)
  | .lptr s off, c => c = .pointer (some ⟨L.β s, off, none⟩)
  | .arr sz es, c => c = .slice (some ⟨L.β t, 0, none⟩) es.length (L.κ t) ∧ es.length ≤ L.κ t ∧ ext (L.β t) = 0 ∧ (∀ e ∈ es, e.cells.length = sz) ∧ ∃ vs e, w.heap[L.β t]? = some (.cells vs e (0, 0)) ∧ L.κ t * sz ≤ vs.size ∧
      Reps w ext ι (es.flatMap AV.cells) (vs.toList.take (es.length * sz)) ∧ ∀ x ∈ vs.toList, x.oneCell' = true
  | .larr s h, c => c = .slice (some ⟨L.β s, 0, none⟩) h (L.κ s)

def AObj.ows : AObj → List Nat
  | .box _ ow => ow
  | _ => []

structure LoopOK (w : World) (ext : Nat → Nat) (ι : List Nat) (G : Prg) (L : ALoop) (b : Nat) : Prop where
  ex : ∃ tmps bd an fn, w.heap[b]? = some (.loop { state := L.state, pending := L.pending, fn, tmps, params := L.params, assign := L.assign, body := L.body, defers := bd }) ∧
    G.ann L.fn = some an ∧ tmps.size = an.ntmps ∧ (∀ t ∈ L.params.toList, t < an.ntmps ∧ an.loc.contains t = false) ∧ regionsOK G an L.assign = true ∧ regionsOK G an L.body = true ∧
    ∀ t, (L.env t).ows = [] ∧ (L.env t).isLoc = false ∧ (∀ s off, L.env t ≠ .lptr s off ∧ L.env t ≠ .larr s off) ∧ (L.env t ≠ .none → fitsSlot an t (L.env t) = true) ∧ ∀ v ow, L.env t = .val v ow → Rep w ext ι v (tmps.getD t undef)

def ObjOK (w : World) (ext : Nat → Nat) (ι : List Nat) (G : Prg) (SL : Nat → Nat → Option Nat) (σ : Sig) (id : Nat) (b : Nat) : AObj → Prop
  | .box cs ow => ext b = 0 ∧ ∃ vs e, w.heap[b]? = some (.cells vs e (0, 0)) ∧ Reps w ext ι cs vs.toList ∧ (∀ x ∈ vs.toList, x.oneCell' = true) ∧
      ∀ i ∈ ow, ∀ a x, cs[i]? = some a → vs[i]? = some x → OwnC w ext a x (SL id i)
  | .loop L => LoopOK w ext ι G L b

structure St where
  w : World
  ext : Nat → Nat
  ι : List Nat
  S : Nat → Prop
  SL : Nat → Nat → Option Nat
  L : Lay

structure SR (G : Prg) (w : World) (ext : Nat → Nat) (ι : List Nat) (S : Nat → Prop) (SL : Nat → Nat → Option Nat) (σ : Sig) : Prop where
  len : ι.length = σ.length
  nodup : ι.Nodup
  obj : ∀ (id : Nat) (o : AObj) (b : Nat), σ[id]? = some o → ι[id]? = some b → ObjOK w ext ι G SL σ id b o
  inS : ∀ b, b ∈ ι → S b
  ownS : ∀ (id : Nat) (o : AObj) (i b : Nat), σ[id]? = some o → i ∈ o.ows → SL id i = some b → S b ∧ b ∉ ι
  inj : ∀ (id : Nat) (o : AObj) (i id' : Nat) (o' : AObj) (i' b : Nat), σ[id]? = some o → i ∈ o.ows → SL id i = some b → σ[id']? = some o' → i' ∈ o'.ows → SL id' i' = some b → id = id' ∧ i = i'
  small : ∀ b, S b → b < w.heap.size
  fresh : ∀ b, w.heap.size ≤ b → ext b = 0
  globals : ∀ (g : Nat) (a : AV), G.gl g = some a → Rep w ext ι a (.pointer (some ⟨g, 0, none⟩))

structure OK (G : Prg) (an : Ann) (B0 : Nat → Prop) (st : St) (ρ : Env) (σ : Sig) (tmps : Array Value) : Prop where
  size : tmps.size = an.ntmps
  slot : ∀ t, SlotOK st.w st.ext st.ι st.L t (ρ t) (tmps.getD t undef)
  fits : ∀ t, ρ t ≠ .none → fitsSlot an t (ρ t) = true
  lptr : ∀ t s off, ρ t = .lptr s off → (ρ s).isLoc = true
  priv : ∀ p b, Has st.L ρ p b → ¬ B0 b ∧ b < st.w.heap.size ∧ ¬ st.S b
  inj : ∀ p q b, Has st.L ρ p b → Has st.L ρ q b → p = q
  base : ∀ b, B0 b → b < st.w.heap.size
  out : ∀ b, st.S b → ¬ B0 b
  sr : SR G st.w st.ext st.ι st.S st.SL σ
  larr : ∀ t s h, ρ t = .larr s h → ∃ sz es, ρ s = .arr sz es ∧ h ≤ es.length

/-- A step of a frame that leaves the blocks of B0 alone. -/
structure Step (B0 : Nat → Prop) (st st' : St) : Prop where
  grow : Grow st.w st.ext st.ι st'.w st'.ext st'.ι
  size : st.w.heap.size ≤ st'.w.heap.size
  blk : ∀ b, B0 b → st'.w.heap[b]? = st.w.heap[b]? ∧ st'.ext b = st.ext b
  os : st'.w.os = st.w.os
  tape : st'.w.tape = st.w.tape
  output : st'.w.output = st.w.output

theorem Step.refl (B0 : Nat → Prop) (st : St) : Step B0 st st := ⟨Grow.refl _ _ _, Nat.le_refl _, fun _ _ => ⟨rfl, rfl⟩, rfl, rfl, rfl⟩
theorem Step.trans {B0 : Nat → Prop} {a b c : St} (h : Step B0 a b) (k : Step B0 b c) : Step B0 a c where
  grow := h.grow.trans k.grow
  size := Nat.le_trans h.size k.size
  blk := fun x hx => ⟨(k.blk x hx).1.trans (h.blk x hx).1, (k.blk x hx).2.trans (h.blk x hx).2⟩
  os := k.os.trans h.os
  tape := k.tape.trans h.tape
  output := k.output.trans h.output
theorem Step.weaken {B0 B1 : Nat → Prop} {a b : St} (hB : ∀ x, B0 x → B1 x) (h : Step B1 a b) : Step B0 a b :=
  ⟨h.grow, h.size, fun x hx => h.blk x (hB x hx), h.os, h.tape, h.output⟩

/-! ### What is untouched stays -/

theorem OwnC.keep {w w' : World} {ext ext' : Nat → Nat} {a : AV} {c : Value} {g : Option Nat} (h : OwnC w ext a c g)
    (hk : ∀ b, g = some b → w'.heap[b]? = w.heap[b]? ∧ ext' b = ext b) : OwnC w' ext' a c g := by
  cases g with
  | none => exact h
  | some b =>
    obtain ⟨n, cap, sz, es, vs, e, h1, h2, h3, h4, h5⟩ := h
    obtain ⟨k1, k2⟩ := hk b rfl
    exact ⟨n, cap, sz, es, vs, e, h1, h2, by rw [k2, h3], by rw [k1, h4], h5⟩

theorem SlotOK.keep {w w' : World} {ext ext' : Nat → Nat} {ι ι' : List Nat} {L : Lay} {t : Nat} {s : Slot} {c : Value} (h : SlotOK w ext ι L t s c) (hg : Grow w ext ι w' ext' ι')
    (hb : s.isLoc = true → w'.heap[L.β t]? = w.heap[L.β t]? ∧ ext' (L.β t) = ext (L.β t))
    (ho : ∀ i ∈ s.ows, ∀ b, L.γ t i = some b → w'.heap[b]? = w.heap[b]? ∧ ext' b = ext b) : SlotOK w' ext' ι' L t s c := by
  cases s with
  | none => trivial
  | val v ow => exact ⟨h.1.mono hg, fun i hi a x ha hx => (h.2 i hi a x ha hx).keep (ho i hi)⟩
  | loc cs ow =>
    obtain ⟨h1, h2, vs, e, h3, h4, h5, h6⟩ := h
    obtain ⟨k1, k2⟩ := hb rfl
    exact ⟨h1, by rw [k2, h2], vs, e, by rw [k1, h3], h4.mono hg, h5, fun i hi a x ha hx => (h6 i hi a x ha hx).keep (ho i hi)⟩
  | lptr s off => exact h
  | arr sz es =>
    obtain ⟨h1, h2, h3, h4, vs, e, h5, h6, h7, h8⟩ := h
    obtain ⟨k1, k2⟩ := hb rfl
    exact ⟨h1, h2, by rw [k2, h3], h4, vs, e, by rw [k1, h5], h6, h7.mono hg, h8⟩
  | larr s n => exact h

theorem SlotOK.lay {w : World} {ext : Nat → Nat} {ι : List Nat} {L L' : Lay} {t : Nat} {s : Slot} {c : Value} (h : SlotOK w ext ι L t s c)
    (hb : s.isLoc = true → L'.β t = L.β t) (hl : ∀ s' off, s = .lptr s' off → L'.β s' = L.β s') (ho : ∀ i ∈ s.ows, L'.γ t i = L.γ t i)
    (hκ : s.isLoc = true → L'.κ t = L.κ t := by intros; rfl) (hl2 : ∀ s' n, s = .larr s' n → L'.β s' = L.β s' ∧ L'.κ s' = L.κ s' := by intros; exact ⟨rfl, rfl⟩) : SlotOK w ext ι L' t s c := by
  cases s with
  | none => trivial
  | val v ow => exact ⟨h.1, fun i hi a x ha hx => by rw [ho i hi]; exact h.2 i hi a x ha hx⟩
  | loc cs ow =>
    obtain ⟨h1, h2, vs, e, h3, h4, h5, h6⟩ := h
    have := hb rfl
    exact ⟨by rw [this]; exact h1, by rw [this]; exact h2, vs, e, by rw [this]; exact h3, h4, h5, fun i hi a x ha hx => by rw [ho i hi]; exact h6 i hi a x ha hx⟩
  | lptr s off => simp only [SlotOK] at h ⊢; rw [hl s off rfl]; exact h
  | arr sz es =>
    obtain ⟨h1, h2, h3, h4, vs, e, h5, h6, h7, h8⟩ := h
    have := hb rfl
    have h' := hκ rfl
    exact ⟨by rw [this, h']; exact h1, by rw [h']; exact h2, by rw [this]; exact h3, h4, vs, e, by rw [this]; exact h5, by rw [h']; exact h6, h7, h8⟩
  | larr s n => simp only [SlotOK] at h ⊢; rw [(hl2 s n rfl).1, (hl2 s n rfl).2]; exact h

theorem ObjOK.keep {w w' : World} {ext ext' : Nat → Nat} {ι ι' : List Nat} {G : Prg} {SL : Nat → Nat → Option Nat} {σ σ' : Sig} {id b : Nat} {o : AObj} (h : ObjOK w ext ι G SL σ id b o) (hg : Grow w ext ι w' ext' ι')
    (hb : w'.heap[b]? = w.heap[b]? ∧ ext' b = ext b)
    (ho : ∀ i ∈ o.ows, ∀ c, SL id i = some c → w'.heap[c]? = w.heap[c]? ∧ ext' c = ext c) : ObjOK w' ext' ι' G SL σ' id b o := by
  cases o with
  | box cs ow =>
    obtain ⟨h2, vs, e, h3, h4, h5, h6⟩ := h
    exact ⟨by rw [hb.2, h2], vs, e, by rw [hb.1, h3], h4.mono hg, h5, fun i hi a x ha hx => (h6 i hi a x ha hx).keep (ho i hi)⟩
  | loop L =>
    obtain ⟨tmps, bd, an, fn, h1, h2, h3, h4, h4', h6, h5⟩ := h.ex
    exact ⟨tmps, bd, an, fn, by rw [hb.1]; exact h1, h2, h3, h4, h4', h6, fun t => ⟨(h5 t).1, (h5 t).2.1, (h5 t).2.2.1, (h5 t).2.2.2.1, fun v ow hv => ((h5 t).2.2.2.2 v ow hv).mono hg⟩⟩

/-- The shared boxes stay, where nothing of theirs is touched. -/
theorem SR.keep {G : Prg} {w w' : World} {ext ext' : Nat → Nat} {ι : List Nat} {S : Nat → Prop} {SL : Nat → Nat → Option Nat} {σ : Sig} (h : SR G w ext ι S SL σ) (hg : Grow w ext ι w' ext' ι)
    (hs : w.heap.size ≤ w'.heap.size) (hb : ∀ b, S b → w'.heap[b]? = w.heap[b]? ∧ ext' b = ext b) (hf : ∀ b, w'.heap.size ≤ b → ext' b = 0) : SR G w' ext' ι S SL σ where
  len := h.len
  nodup := h.nodup
  obj := fun id o b ho hi => (h.obj id o b ho hi).keep hg (hb b (h.inS b (List.mem_of_getElem? hi))) fun i hi' c hc => hb c (h.ownS id o i c ho hi' hc).1
  inS := h.inS
  ownS := h.ownS
  inj := h.inj
  small := fun b hb => Nat.lt_of_lt_of_le (h.small b hb) hs
  fresh := hf
  globals := fun g a ha => (h.globals g a ha).mono hg

/-! ### One slot is set -/

theorem upd_same (ρ : Env) (t : Nat) (s : Slot) : upd ρ t s t = s := by simp [upd]
theorem upd_other (ρ : Env) (t : Nat) (s : Slot) {u : Nat} (h : u ≠ t) : upd ρ t s u = ρ u := by simp [upd, h]

theorem fits_loc {an : Ann} {t : Nat} {s : Slot} (h : fitsSlot an t s = true) : s.isLoc = an.loc.contains t ∨ s = .none := by
  cases s <;> simp_all [fitsSlot, Slot.isLoc]

variable {G : Prg} {an : Ann} {B0 : Nat → Prop} {st : St} {ρ : Env} {σ : Sig} {tmps : Array Value}

/-- A right to append is given up. -/
theorem OK.clear (h : OK G an B0 st ρ σ tmps) {x : Nat} {s : Slot} (hs : (∃ v ow ow', ρ x = .val v ow ∧ s = .val v ow' ∧ ∀ i ∈ ow', i ∈ ow) ∨ (∃ cs ow ow', ρ x = .loc cs ow ∧ s = .loc cs ow' ∧ ∀ i ∈ ow', i ∈ ow)) :
    OK G an B0 st (upd ρ x s) σ tmps := by
  have hloc : s.isLoc = (ρ x).isLoc := by rcases hs with ⟨v, ow, ow', h1, h2, _⟩ | ⟨v, ow, ow', h1, h2, _⟩ <;> rw [h1, h2] <;> rfl
  have hows : ∀ i ∈ s.ows, i ∈ (ρ x).ows := by rcases hs with ⟨v, ow, ow', h1, h2, h3⟩ | ⟨v, ow, ow', h1, h2, h3⟩ <;> rw [h1, h2] <;> exact h3
  have hhas : ∀ p b, Has st.L (upd ρ x s) p b → Has st.L ρ p b := by
    intro p b hp
    cases p with
    | box t =>
      by_cases ht : t = x
      · subst ht; simp only [Has, upd_same] at hp ⊢; rw [← hloc]; exact hp
      · simpa only [Has, upd_other _ _ _ ht] using hp
    | own t i =>
      by_cases ht : t = x
      · subst ht; simp only [Has, upd_same] at hp ⊢; exact ⟨hows i hp.1, hp.2⟩
      · simpa only [Has, upd_other _ _ _ ht] using hp
  refine ⟨h.size, fun t => ?_, fun t => ?_, fun t s' off ht => ?_, fun p b hp => h.priv p b (hhas p b hp), fun p q b hp hq => h.inj p q b (hhas p b hp) (hhas q b hq), h.base, h.out, h.sr, fun t s' n ht => ?_⟩
  · by_cases ht : t = x
    · subst ht
      rw [upd_same]
      have := h.slot t
      rcases hs with ⟨v, ow, ow', h1, h2, h3⟩ | ⟨v, ow, ow', h1, h2, h3⟩
      · rw [h1] at this; rw [h2]; exact ⟨this.1, fun i hi => this.2 i (h3 i hi)⟩
      · rw [h1] at this; rw [h2]
        obtain ⟨k1, k2, vs, e, k3, k4, k5, k6⟩ := this
        exact ⟨k1, k2, vs, e, k3, k4, k5, fun i hi => k6 i (h3 i hi)⟩
    · rw [upd_other _ _ _ ht]; exact h.slot t
  · by_cases ht : t = x
    · subst ht
      rw [upd_same]
      intro _
      have := h.fits t
      rcases hs with ⟨v, ow, ow', h1, h2, h3⟩ | ⟨v, ow, ow', h1, h2, h3⟩
      · rw [h1] at this; rw [h2]; simpa [fitsSlot] using this (by simp)
      · rw [h1] at this; rw [h2]; simpa [fitsSlot] using this (by simp)
    · rw [upd_other _ _ _ ht]; exact h.fits t
  · have hne : t ≠ x := by
      rintro rfl
      rw [upd_same] at ht
      rcases hs with ⟨v, ow, ow', h1, h2, h3⟩ | ⟨v, ow, ow', h1, h2, h3⟩ <;> rw [h2] at ht <;> cases ht
    rw [upd_other _ _ _ hne] at ht
    have := h.lptr t s' off ht
    by_cases hx : s' = x
    · subst hx; rw [upd_same, hloc]; exact this
    · rw [upd_other _ _ _ hx]; exact this
  · have hne : t ≠ x := by
      rintro rfl
      rw [upd_same] at ht
      rcases hs with ⟨v, ow, ow', h1, h2, h3⟩ | ⟨v, ow, ow', h1, h2, h3⟩ <;> rw [h2] at ht <;> cases ht
    rw [upd_other _ _ _ hne] at ht
    obtain ⟨sz, es, h4, h5⟩ := h.larr t s' n ht
    have hx : s' ≠ x := by
      rintro rfl
      rcases hs with ⟨v, ow, ow', h1, h2, h3⟩ | ⟨v, ow, ow', h1, h2, h3⟩ <;> rw [h1] at h4 <;> cases h4
    exact ⟨sz, es, by rw [upd_other _ _ _ hx]; exact h4, h5⟩

theorem getD_set (tmps : Array Value) (d : Nat) (c : Value) (hd : d < tmps.size) (t : Nat) : (tmps.setIfInBounds d c).getD t undef = if t = d then c else tmps.getD t undef := by
  by_cases h : t = d
  · subst h; simp [Array.getD_eq_getD_getElem?, hd]
  · simp only [Array.getD_eq_getD_getElem?, h, if_false]
    rw [Array.getElem?_setIfInBounds]
    simp [Ne.symm h]

/-- A temporary gets a value (no private box stands there). -/
theorem OK.put (h : OK G an B0 st ρ σ tmps) {d : Nat} {v : AV} {ow : List Nat} {c : Value} (hd : d < an.ntmps) (hl : an.loc.contains d = false) (g : Nat → Option Nat)
    (hr : Rep st.w st.ext st.ι v c) (ho : ∀ i ∈ ow, ∀ a x, v.cells[i]? = some a → c.cells[i]? = some x → OwnC st.w st.ext a x (g i))
    (hp : ∀ i ∈ ow, ∀ b, g i = some b → ¬ B0 b ∧ b < st.w.heap.size ∧ ¬ st.S b)
    (hn : ∀ i ∈ ow, ∀ b, g i = some b → ∀ p, p.slot ≠ d → ¬ Has st.L ρ p b)
    (hi : ∀ i ∈ ow, ∀ j ∈ ow, ∀ b, g i = some b → g j = some b → i = j) :
    OK G an B0 { st with L := st.L.setγ d g } (upd ρ d (.val v ow)) σ (tmps.setIfInBounds d c) := by
  have hd' : d < tmps.size := by rw [h.size]; exact hd
  have hnl : (ρ d).isLoc = false := by
    by_cases hn : ρ d = .none
    · rw [hn]; rfl
    · rcases fits_loc (h.fits d hn) with h1 | h1
      · rw [h1]; exact hl
      · exact absurd h1 hn
  have hhas : ∀ p b, p.slot ≠ d → (Has (st.L.setγ d g) (upd ρ d (.val v ow)) p b ↔ Has st.L ρ p b) := by
    intro p b hp
    cases p with
    | box t => simp only [Place.slot] at hp; simp [Has, upd_other _ _ _ hp, Lay.setγ]
    | own t i => simp only [Place.slot] at hp; simp [Has, upd_other _ _ _ hp, Lay.setγ, hp]
  have hd2 : ∀ p b, p.slot = d → Has (st.L.setγ d g) (upd ρ d (.val v ow)) p b → ∃ i, p = .own d i ∧ i ∈ ow ∧ g i = some b := by
    intro p b hp hh
    cases p with
    | box t => simp only [Place.slot] at hp; subst hp; simp [Has, upd_same, Slot.isLoc] at hh
    | own t i => simp only [Place.slot] at hp; subst hp; simp [Has, upd_same, Slot.ows, Lay.setγ] at hh; exact ⟨i, rfl, hh.1, hh.2⟩
  refine ⟨by simpa using h.size, fun t => ?_, fun t => ?_, fun t s off ht => ?_, fun p b hh => ?_, fun p q b hh hq => ?_, h.base, h.out, h.sr, fun t s n ht => ?_⟩
  · rw [getD_set _ _ _ hd']
    by_cases ht : t = d
    · subst ht
      rw [upd_same, if_pos rfl]
      exact ⟨hr, fun i hi a x ha hx => by simpa [Lay.setγ] using ho i hi a x ha hx⟩
    · rw [upd_other _ _ _ ht, if_neg ht]
      exact (h.slot t).lay (fun _ => rfl) (fun _ _ _ => rfl) fun i _ => by simp [Lay.setγ, ht]
  · by_cases ht : t = d
    · subst ht; rw [upd_same]; intro _; simp only [fitsSlot, hl]; rfl
    · rw [upd_other _ _ _ ht]; exact h.fits t
  · have hne : t ≠ d := by rintro rfl; rw [upd_same] at ht; cases ht
    rw [upd_other _ _ _ hne] at ht
    have := h.lptr t s off ht
    have hsd : s ≠ d := by rintro rfl; rw [hnl] at this; cases this
    rw [upd_other _ _ _ hsd]; exact this
  · by_cases hs : p.slot = d
    · obtain ⟨i, rfl, hi1, hi2⟩ := hd2 p b hs hh
      exact hp i hi1 b hi2
    · exact h.priv p b ((hhas p b hs).1 hh)
  · by_cases hs : p.slot = d <;> by_cases hs' : q.slot = d
    · obtain ⟨i, rfl, hi1, hi2⟩ := hd2 p b hs hh
      obtain ⟨j, rfl, hj1, hj2⟩ := hd2 q b hs' hq
      rw [hi i hi1 j hj1 b hi2 hj2]
    · obtain ⟨i, rfl, hi1, hi2⟩ := hd2 p b hs hh
      exact absurd ((hhas q b hs').1 hq) (hn i hi1 b hi2 q hs')
    · obtain ⟨i, rfl, hi1, hi2⟩ := hd2 q b hs' hq
      exact absurd ((hhas p b hs).1 hh) (hn i hi1 b hi2 p hs)
    · exact h.inj p q b ((hhas p b hs).1 hh) ((hhas q b hs').1 hq)
  · have hne : t ≠ d := by rintro rfl; rw [upd_same] at ht; cases ht
    rw [upd_other _ _ _ hne] at ht
    obtain ⟨sz, es, h4, h5⟩ := h.larr t s n ht
    have hsd : s ≠ d := by rintro rfl; rw [h4] at hnl; cases hnl
    exact ⟨sz, es, by rw [upd_other _ _ _ hsd]; exact h4, h5⟩

/-- A plain value: no right to append. -/
theorem OK.putPlain (h : OK G an B0 st ρ σ tmps) {d : Nat} {v : AV} {c : Value} (hd : d < an.ntmps) (hl : an.loc.contains d = false) (hr : Rep st.w st.ext st.ι v c) :
    ∃ L, OK G an B0 { st with L := L } (upd ρ d (.val v [])) σ (tmps.setIfInBounds d c) :=
  ⟨_, h.put hd hl (fun _ => none) hr (fun _ hi => by cases hi) (fun _ hi => by cases hi) (fun _ hi => by cases hi) (fun _ hi => by cases hi)⟩

end Go.AI

/- The abstract machine: constants and operands. -/
namespace Go.AI
set_option linter.unusedVariables false
set_option linter.unusedSimpArgs false
open Go

section
variable {w : World} {ext : Nat → Nat} {ι : List Nat}

theorem nav_rep {v : Value} {a : AV} (h : nav v = some a) : Rep w ext ι a v ∧ v.oneCell' = true ∧ v.cells = #[v] ∧ a.cells = [a] ∧ a.okc = true := by
  unfold nav at h
  split at h
  all_goals try (simp at h; subst h; exact ⟨by constructor, rfl, rfl, rfl, rfl⟩)
  · split at h
    · rename_i g first cap hc
      simp at h; subst h
      refine ⟨.func _ _ _ _ _ ?_ ?_, rfl, rfl, rfl, rfl⟩
      · have : first.toList = [] := by simpa using hc.1
        rw [this]; exact .nil
      · have : cap.toList = [] := by simpa using hc.2
        rw [this]; exact .nil
    · simp at h
  · simp at h

theorem foldlM_inv {α β : Type} (f : β → α → Option β) (I : β → Prop) (l : List α) (hf : ∀ b x b', x ∈ l → I b → f b x = some b' → I b') :
    ∀ b b', I b → l.foldlM f b = some b' → I b' := by
  induction l with
  | nil => intro b b' hb h; simp at h; subst h; exact hb
  | cons x l ih =>
    intro b b' hb h
    simp only [List.foldlM_cons, Option.bind_eq_bind, Option.bind_eq_some_iff] at h
    obtain ⟨b1, h1, h2⟩ := h
    exact ih (fun b x b' hx => hf b x b' (List.mem_cons_of_mem _ hx)) b1 b' (hf b x b1 (List.mem_cons_self ..) hb h1) h2

theorem extract_list (cs : Array Value) (o n : Nat) : (cs.extract o (o + n)).toList = (cs.toList.drop o).take n := by
  simp [Array.toList_extract, List.extract]

theorem take_part {l : List Value} {k m : Nat} {us : List Value} (h : (l.drop k).take m = us) (_ : us.length = m) : l.take (k + m) = l.take k ++ us := by
  rw [← h, List.take_add]

/-- A cell of a constant: no room behind a slice. -/
def Good (x : Value) : Prop := x.oneCell' = true ∧ ∀ p n cap, x = .slice p n cap → cap = n

theorem tcells_good {P : Program} : ∀ (n : Nat) (t : TypeId) (v : Value) (cs : List AV), tcells P n t v = some cs →
    Reps w ext ι cs v.cells.toList ∧ (∀ x ∈ v.cells.toList, Good x) ∧ (∀ c ∈ cs, c.okc = true ∧ c.cells = [c]) := by
  intro n
  induction n with
  | zero => intro t v cs h; simp [tcells] at h
  | succ n ih =>
    intro t v cs h
    have step : ∀ (fs : Array Value) (acc : List AV) (off sz : Nat) (ft : TypeId) (l : List AV),
        acc.length = off → (if aggT P ft then tcells P n ft (.agg (fs.extract off (off + P.cellsOf ft))) else (fs[off]?).bind (tcells P n ft)) = some l → l.length = P.cellsOf ft →
        Reps w ext ι acc (fs.toList.take acc.length) ∧ (∀ x ∈ fs.toList.take acc.length, Good x) ∧ (∀ c ∈ acc, c.okc = true ∧ c.cells = [c]) →
        Reps w ext ι (acc ++ l) (fs.toList.take (acc ++ l).length) ∧ (∀ x ∈ fs.toList.take (acc ++ l).length, Good x) ∧ (∀ c ∈ acc ++ l, c.okc = true ∧ c.cells = [c]) := by
      intro fs acc off sz ft l hoff hl hlen ⟨h1, h2, h3⟩
      have key : ∃ us, (fs.toList.drop off).take l.length = us ∧ us.length = l.length ∧ Reps w ext ι l us ∧ (∀ x ∈ us, Good x) ∧ (∀ c ∈ l, c.okc = true ∧ c.cells = [c]) := by
        split at hl
        · obtain ⟨k1, k2, k3⟩ := ih _ _ _ hl
          simp only [Value.cells, extract_list] at k1 k2
          rw [← hlen] at k1 k2
          exact ⟨_, rfl, k1.length.symm, k1, k2, k3⟩
        · rw [Option.bind_eq_some_iff] at hl
          obtain ⟨x, hx, hl⟩ := hl
          obtain ⟨k1, k2, k3⟩ := ih _ _ _ hl
          have hcell : x.cells = #[x] ∨ ∃ c, x = .agg c := by cases x <;> simp [Value.cells]
          rename_i hagg
          have hx1 : x.cells = #[x] := by
            rcases hcell with h | ⟨c, rfl⟩
            · exact h
            · exfalso
              cases n with
              | zero => simp [tcells] at hl
              | succ n =>
                simp only [tcells] at hl
                unfold aggT at hagg
                split at hl <;> simp_all [nav]
          rw [hx1] at k1 k2
          have hl1 : l.length = 1 := by simpa using k1.length
          refine ⟨[x], ?_, by simp [hl1], k1, k2, k3⟩
          rw [hl1]
          have hx' : fs.toList[off]? = some x := by simpa using hx
          have hlt := (List.getElem?_eq_some_iff.1 hx').1
          rw [List.drop_eq_getElem_cons hlt]
          have := (List.getElem?_eq_some_iff.1 hx').2
          simp [← this]
      obtain ⟨us, hus, hul, hr, hone, hokc⟩ := key
      have htake : fs.toList.take (acc ++ l).length = fs.toList.take acc.length ++ us := by
        rw [List.length_append]; exact take_part (by rw [hoff]; exact hus) hul
      rw [htake]
      refine ⟨h1.append hr, ?_, ?_⟩
      · intro x hx; rcases List.mem_append.1 hx with hx | hx
        · exact h2 x hx
        · exact hone x hx
      · intro x hx; rcases List.mem_append.1 hx with hx | hx
        · exact h3 x hx
        · exact hokc x hx
    have fin : ∀ (fs : Array Value) (l : List AV), l.length = fs.size → Reps w ext ι l (fs.toList.take l.length) ∧ (∀ x ∈ fs.toList.take l.length, Good x) ∧ (∀ c ∈ l, c.okc = true ∧ c.cells = [c]) →
        Reps w ext ι l fs.toList ∧ (∀ x ∈ fs.toList, Good x) ∧ (∀ c ∈ l, c.okc = true ∧ c.cells = [c]) := by
      intro fs l hl h
      rw [hl, List.take_of_length_le (by simp)] at h; exact h
    simp only [tcells] at h
    split at h
    · simp at h; subst h
      simp only [Value.cells]
      refine ⟨.cons _ _ _ _ (.slice _ _ _ _ _ [] rfl (Nat.le_refl _) (fun _ h => by cases h) .nil (fun _ h => by cases h) (.inl rfl)) .nil, ?_, ?_⟩
      · intro x hx; simp at hx; subst hx; exact ⟨rfl, fun p n cap h => by cases h; rfl⟩
      · intro x hx; simp at hx; subst hx; exact ⟨rfl, rfl⟩
    · simp at h
    · rename_i fs cells hu
      rw [Option.bind_eq_some_iff] at h
      obtain ⟨l, hl, h⟩ := h
      split at h
      · rename_i hlen
        simp at h; subst h
        simp only [Value.cells]
        refine fin cells l hlen (foldlM_inv _ (fun acc => Reps w ext ι acc (cells.toList.take acc.length) ∧ (∀ x ∈ cells.toList.take acc.length, Good x) ∧ (∀ c ∈ acc, c.okc = true ∧ c.cells = [c])) _ ?_ [] l ⟨by simp; exact .nil, by simp, by simp⟩ hl)
        intro acc f acc' _ hacc hf
        split at hf
        · rename_i hoff
          rw [Option.bind_eq_some_iff] at hf
          obtain ⟨l', hl', hf⟩ := hf
          split at hf
          · rename_i hlen'
            simp at hf; subst hf
            exact step cells acc f.offset 0 f.type l' hoff hl' hlen' hacc
          · simp at hf
        · simp at hf
      · simp at h
    · rename_i m e cells hu
      rw [Option.bind_eq_some_iff] at h
      obtain ⟨l, hl, h⟩ := h
      split at h
      · rename_i hlen
        simp at h; subst h
        simp only [Value.cells]
        refine fin cells l hlen (foldlM_inv _ (fun acc => Reps w ext ι acc (cells.toList.take acc.length) ∧ (∀ x ∈ cells.toList.take acc.length, Good x) ∧ (∀ c ∈ acc, c.okc = true ∧ c.cells = [c])) _ ?_ [] l ⟨by simp; exact .nil, by simp, by simp⟩ hl)
        intro acc i acc' _ hacc hf
        split at hf
        · rename_i hoff
          rw [Option.bind_eq_some_iff] at hf
          obtain ⟨l', hl', hf⟩ := hf
          split at hf
          · rename_i hlen'
            simp at hf; subst hf
            exact step cells acc _ 0 e l' hoff hl' hlen' hacc
          · simp at hf
        · simp at hf
      · simp at h
    · simp at h
    · simp at h
    · rw [Option.map_eq_some_iff] at h
      obtain ⟨a, ha, rfl⟩ := h
      obtain ⟨k1, k2, k3, k4, k5⟩ := nav_rep (w := w) (ext := ext) (ι := ι) ha
      rw [k3]
      refine ⟨.cons _ _ _ _ k1 .nil, ?_, ?_⟩
      · intro x hx; simp at hx; subst hx; exact ⟨k2, fun p n cap h => by subst h; simp [nav] at ha⟩
      · intro x hx; simp at hx; subst hx; exact ⟨k5, k4⟩

theorem tcells_rep {P : Program} (n : Nat) (t : TypeId) (v : Value) (cs : List AV) (h : tcells P n t v = some cs) :
    Reps w ext ι cs v.cells.toList ∧ (∀ x ∈ v.cells.toList, x.oneCell' = true) ∧ (∀ c ∈ cs, c.okc = true ∧ c.cells = [c]) :=
  have h := tcells_good (w := w) (ext := ext) (ι := ι) n t v cs h
  ⟨h.1, fun x hx => (h.2.1 x hx).1, h.2.2⟩

theorem joinC_rep {P : Program} {t : TypeId} {v : Value} {n : Nat} {cs : List AV} {a : AV} (h : tcells P n t v = some cs) (hj : joinC (aggT P t) cs = some a) :
    Rep w ext ι a v ∧ a.okc = true ∧ a.cells = cs := by
  obtain ⟨h1, h2, h3⟩ := tcells_rep (w := w) (ext := ext) (ι := ι) n t v cs h
  unfold joinC at hj
  split at hj
  · rename_i hagg
    simp at hj; subst hj
    have hv : ∃ c, v = .agg c := by
      cases n with
      | zero => simp [tcells] at h
      | succ n =>
        simp only [tcells] at h
        unfold aggT at hagg
        split at h <;> simp_all
    obtain ⟨c, rfl⟩ := hv
    exact ⟨.agg _ _ h1 h2, rfl, rfl⟩
  · rename_i hagg
    split at hj
    · rename_i c
      split at hj
      · simp at hj
      · simp at hj; subst hj
        have hc := h3 c (by simp)
        have hv : v.cells = #[v] := by
          have hcell : v.cells = #[v] ∨ ∃ c, v = .agg c := by cases v <;> simp [Value.cells]
          rcases hcell with h' | ⟨c', rfl⟩
          · exact h'
          · exfalso
            cases n with
            | zero => simp [tcells] at h
            | succ n =>
              simp only [tcells] at h
              unfold aggT at hagg
              split at h <;> simp_all [nav]
        rw [hv] at h1
        cases h1 with
        | cons _ _ _ _ hr _ => exact ⟨hr, hc.1, hc.2⟩
    · simp at hj

theorem cval_rep {P : Program} {t : TypeId} {v : Value} {a : AV} (h : cval P t v = some a) : Rep w ext ι a v := by
  unfold cval at h
  split at h
  · rename_i b hb
    split at h
    · simp at h
    · simp at h; subst h; exact (nav_rep hb).1
  · rw [Option.bind_eq_some_iff] at h
    obtain ⟨cs, h1, h2⟩ := h
    exact (joinC_rep h1 h2).1

end
end Go.AI

/- The abstract machine: operations that make a value and leave the world alone. -/
namespace Go.AI
set_option linter.unusedVariables false
set_option linter.unusedSimpArgs false
open Go

variable {G : Prg} {an : Ann} {B0 : Nat → Prop} {st : St} {ρ ρm : Env} {σ : Sig}

/-- What an operation comes to. -/
def OpGoal (G : Prg) (an : Ann) (B0 : Nat → Prop) (st : St) (a : Act) (o : Oper) (ρ' : Env) (σ' : Sig) : Prop :=
  ∃ v st', ((execOp a.eval o).run G.P st.w = .ok (.value v) st'.w ∨ ((execOp a.eval o).run G.P st.w = .ok .skip st'.w ∧ v = undef)) ∧
    OK G an B0 st' ρ' σ' (a.put o.dst v).tmps ∧ Step B0 st st'

/-- A part of what is at hand. -/
def Sub (ρm ρ : Env) : Prop := ∀ t, ρm t ≠ .none → ρm t = ρ t

theorem Sub.val (h : Sub ρm ρ) {t : Nat} {s : Slot} (hs : ρm t = s) (hn : s ≠ .none) : ρ t = s := by
  rw [← h t (by rw [hs]; exact hn), hs]

theorem mask_sub (l : List Nat) (ρ : Env) : Sub (mask l ρ) ρ := by
  intro t ht
  unfold mask at *
  split <;> simp_all

theorem opv_rep {tmps : Array Value} {a : Act} (h : OK G an B0 st ρ σ tmps) (ha : a.tmps = tmps) (hs : Sub ρm ρ) {t : TypeId} {x : Operand} {v : AV} (hv : opv G ρm t x = some v) :
    Rep st.w st.ext st.ι v (a.eval x) := by
  cases x with
  | tmp s =>
    simp only [opv] at hv
    split at hv
    · rename_i v' ow hρ
      simp at hv; subst hv
      have := h.slot s
      rw [hs.val hρ (by simp)] at this
      simpa [Act.eval, ha] using this.1
    · simp at hv
  | const c => exact cval_rep hv
  | global g => exact h.sr.globals g v hv
  | func f => simp [opv] at hv; subst hv; exact .func _ _ _ _ _ .nil .nil

theorem put_tmps (a : Act) (d : Tmp) (v : Value) : (a.put (some d) v).tmps = a.tmps.setIfInBounds d v := rfl

/-- What the updates must fit. -/
def Fit (an : Ann) (ups : List (Nat × Slot)) : Prop := ∀ u ∈ ups, u.1 < an.ntmps ∧ fitsSlot an u.1 u.2 = true

theorem fit_val {an : Ann} {d : Nat} {v : AV} {ow : List Nat} (h : fitsSlot an d (.val v ow) = true) : an.loc.contains d = false := by
  simpa [fitsSlot] using h

/-- A plain value is made, the world is as it was. -/
theorem goal_plain {a : Act} {o : Oper} {v : AV} {c : Value} (h : OK G an B0 st ρ σ a.tmps) (hf : Fit an (puts o.dst (.val v [])))
    (hr : (execOp a.eval o).run G.P st.w = .ok (.value c) st.w) (hv : Rep st.w st.ext st.ι v c) : OpGoal G an B0 st a o (apply (puts o.dst (.val v [])) ρ) σ := by
  cases hd : o.dst with
  | none =>
    refine ⟨c, st, .inl hr, ?_, Step.refl _ _⟩
    simpa [puts, apply, hd, Act.put] using h
  | some d =>
    obtain ⟨h1, h2⟩ := hf (d, .val v []) (by simp [puts, hd])
    obtain ⟨L, hL⟩ := h.putPlain h1 (fit_val h2) hv
    refine ⟨c, { st with L := L }, .inl hr, ?_, ⟨Grow.refl _ _ _, Nat.le_refl _, fun _ _ => ⟨rfl, rfl⟩, rfl, rfl, rfl⟩⟩
    simpa [puts, apply, hd, put_tmps] using hL

theorem okL (L : Lay) : Step B0 st { st with L := L } := ⟨Grow.refl _ _ _, Nat.le_refl _, fun _ _ => ⟨rfl, rfl⟩, rfl, rfl, rfl⟩

/-- A pointer into a private box is made. -/
theorem goal_lptr {a : Act} {o : Oper} {s off : Nat} (h : OK G an B0 st ρ σ a.tmps) (hf : Fit an (puts o.dst (.lptr s off))) (hl : (ρ s).isLoc = true)
    (hr : (execOp a.eval o).run G.P st.w = .ok (.value (.pointer (some ⟨st.L.β s, off, none⟩))) st.w) : OpGoal G an B0 st a o (apply (puts o.dst (.lptr s off)) ρ) σ := by
  cases hd : o.dst with
  | none =>
    refine ⟨_, st, .inl hr, ?_, Step.refl _ _⟩
    simpa [puts, apply, hd, Act.put] using h
  | some d =>
    obtain ⟨h1, h2⟩ := hf (d, .lptr s off) (by simp [puts, hd])
    have hdl : an.loc.contains d = false := by simp only [fitsSlot, Bool.and_eq_true] at h2; simpa using h2.2
    have hnl : (ρ d).isLoc = false := by
      by_cases hn : ρ d = .none
      · rw [hn]; rfl
      · rcases fits_loc (h.fits d hn) with k | k
        · rw [k]; exact hdl
        · exact absurd k hn
    have hsd : s ≠ d := by rintro rfl; rw [hnl] at hl; cases hl
    refine ⟨_, st, .inl hr, ?_, Step.refl _ _⟩
    simp only [puts, apply, hd, put_tmps, List.foldl]
    have hhas : ∀ p b, Has st.L (upd ρ d (.lptr s off)) p b → Has st.L ρ p b := by
      intro p b hp
      cases p with
      | box t =>
        by_cases ht : t = d
        · subst ht; simp [Has, upd_same, Slot.isLoc] at hp
        · simpa only [Has, upd_other _ _ _ ht] using hp
      | own t i =>
        by_cases ht : t = d
        · subst ht; simp [Has, upd_same, Slot.ows] at hp
        · simpa only [Has, upd_other _ _ _ ht] using hp
    have hd' : d < a.tmps.size := by rw [h.size]; exact h1
    refine ⟨by simpa using h.size, fun t => ?_, fun t => ?_, fun t s' off' ht => ?_, fun p b hp => h.priv p b (hhas p b hp), fun p q b hp hq => h.inj p q b (hhas p b hp) (hhas q b hq), h.base, h.out, h.sr, fun t s' n ht => ?_⟩
    · rw [getD_set _ _ _ hd']
      by_cases ht : t = d
      · subst ht; rw [upd_same, if_pos rfl]; rfl
      · rw [upd_other _ _ _ ht, if_neg ht]; exact h.slot t
    · by_cases ht : t = d
      · subst ht; rw [upd_same]; intro _; exact h2
      · rw [upd_other _ _ _ ht]; exact h.fits t
    · by_cases ht' : t = d
      · subst ht'; rw [upd_same] at ht; cases ht; rw [upd_other _ _ _ hsd]; exact hl
      · rw [upd_other _ _ _ ht'] at ht
        have k := h.lptr t s' off' ht
        have hsd' : s' ≠ d := by rintro rfl; rw [hnl] at k; cases k
        rw [upd_other _ _ _ hsd']; exact k
    · have hne : t ≠ d := by rintro rfl; rw [upd_same] at ht; cases ht
      rw [upd_other _ _ _ hne] at ht
      obtain ⟨sz, es, h4, h5⟩ := h.larr t s' n ht
      have hsd' : s' ≠ d := by rintro rfl; rw [h4] at hnl; cases hnl
      exact ⟨sz, es, by rw [upd_other _ _ _ hsd']; exact h4, h5⟩

/-! ### Reading cells -/

theorem addr_add (b o n : Nat) : (⟨b, o, none⟩ : Addr).add n = ⟨b, o + n, none⟩ := by
  unfold Addr.add; split <;> simp_all

theorem aggT_run {P : Program} {t : TypeId} (w : World) (h : tyOk P t = true) : (isAgg t).run P w = .ok (aggT P t) w := by
  unfold tyOk at h
  simp only [Bool.and_eq_true, Option.isSome_iff_exists] at h
  obtain ⟨⟨d, hd⟩, _⟩ := h
  unfold aggT isAgg
  rw [hd]
  simp only [Sem.run_bind, run_underlying hd, Result.andThen_ok]
  cases d <;> rfl

theorem sizeOf_run {P : Program} {t : TypeId} (w : World) (h : (P.info? t).isSome = true) : (sizeOf t).run P w = .ok (P.cellsOf t) w := by
  obtain ⟨i, hi⟩ := Option.isSome_iff_exists.1 h
  simp [sizeOf, typeInfo, Sem.run_bind, program, Sem.run, hi, Result.andThen, Program.cellsOf]

/-- The cells from an address on, as a value of a type. -/
theorem loadVar_run {P : Program} {t : TypeId} (w : World) (b off : Nat) {vs : List Value} {cs : List AV} {ext : Nat → Nat} {ι : List Nat} {v : AV} (ht : tyOk P t = true)
    (hr : Reps w ext ι cs vs) (hone : ∀ x ∈ vs, x.oneCell' = true) (hc : ∀ i x, vs[i]? = some x → w.cell? ⟨b, off + i, none⟩ = some x) (o : Nat)
    (hcut : cut (aggT P t) cs o (P.cellsOf t) = some v) : ∃ c, (loadVar t ⟨b, off + o, none⟩).run P w = .ok c w ∧ Rep w ext ι v c ∧
      (∀ y x, P.cellsOf t = 1 → v.cells[0]? = some y → c.cells[0]? = some x → cs[o]? = some y ∧ vs[o]? = some x) := by
  have hi : (P.info? t).isSome = true := by unfold tyOk at ht; simp only [Bool.and_eq_true] at ht; exact ht.2
  unfold cut at hcut
  dsimp only at hcut
  split at hcut
  · rename_i hlen
    have hdr := (hr.drop o).take (P.cellsOf t)
    have hlen2 := hdr.length
    rw [hlen] at hlen2
    have hcell : ∀ i x, ((vs.drop o).take (P.cellsOf t))[i]? = some x → w.cell? ((⟨b, off + o, none⟩ : Addr).add i) = some x := by
      intro i x hx
      rw [addr_add]
      have hlt := (List.getElem?_eq_some_iff.1 hx).1
      rw [List.getElem?_take_of_lt (by omega), List.getElem?_drop] at hx
      have := hc (o + i) x hx
      rwa [← Nat.add_assoc] at this
    have hone' : ∀ x ∈ (vs.drop o).take (P.cellsOf t), x.oneCell' = true := fun x hx => hone x (List.mem_of_mem_drop (List.mem_of_mem_take hx))
    unfold joinC at hcut
    cases hagg : aggT P t with
    | true =>
      rw [hagg] at hcut
      simp at hcut; subst hcut
      refine ⟨.agg ((vs.drop o).take (P.cellsOf t)).toArray, ?_, .agg _ _ (by simpa using hdr) (by simpa using hone'), fun y x h1 hy hx => ?_⟩
      · have hrun := run_loadCells_list (P := P) (w := w) (⟨b, off + o, none⟩ : Addr) ((vs.drop o).take (P.cellsOf t)) hcell
        rw [← hlen2] at hrun
        simp only [loadVar, Sem.run_bind, aggT_run w ht, Result.andThen_ok, hagg, if_true, sizeOf_run w hi, hrun]
        rfl
      · rw [h1] at hy hx
        simp only [AV.cells, Value.cells] at hy hx
        rw [List.getElem?_take_of_lt (by omega), List.getElem?_drop] at hy
        simp only [List.getElem?_toArray] at hx
        rw [List.getElem?_take_of_lt (by omega), List.getElem?_drop] at hx
        exact ⟨hy, hx⟩
    | false =>
      rw [hagg] at hcut
      simp only [if_false, Bool.false_eq_true] at hcut
      split at hcut
      · rename_i c hl
        split at hcut
        · simp at hcut
        · rename_i hna
          simp at hcut; subst hcut
          try rw [hl] at hlen
          try rw [hl] at hdr
          have hn1 : P.cellsOf t = 1 := by simpa using hlen.symm
          rw [hn1] at hdr hcell hone'
          generalize hq : (vs.drop o).take 1 = q at *
          cases hdr with
          | cons _ x _ r hx hr' =>
            cases hr'
            have h0 := hcell 0 x rfl
            rw [addr_add, Nat.add_zero] at h0
            have hox : vs[o]? = some x := by
              have : ((vs.drop o).take 1)[0]? = some x := by rw [hq]; rfl
              simpa [List.getElem?_take_of_lt, List.getElem?_drop] using this
            have hoc : cs[o]? = some c := by
              have : ((cs.drop o).take (P.cellsOf t))[0]? = some c := by rw [hl]; rfl
              rw [hn1] at this
              simpa [List.getElem?_take_of_lt, List.getElem?_drop] using this
            have hxo := hone' x (by simp)
            have k1 : c.cells = [c] := by cases c <;> simp_all [AV.cells]
            have k2 : x.cells = #[x] := by cases x <;> simp_all [Value.cells, Value.oneCell']
            refine ⟨x, ?_, hx, fun y z _ hy hz => ?_⟩
            · simp only [loadVar, Sem.run_bind, aggT_run w ht, Result.andThen_ok, hagg, if_false, Bool.false_eq_true, load, Sem.run]
              rw [h0]
            · rw [k1] at hy; rw [k2] at hz
              simp at hy hz; subst hy; subst hz
              exact ⟨hoc, hox⟩
      · simp at hcut
  · simp at hcut

end Go.AI

/- The abstract machine: the operations that look at values alone. -/
namespace Go.AI
set_option linter.unusedVariables false
set_option linter.unusedSimpArgs false
open Go

variable {G : Prg} {E : EE} {B0 : Nat → Prop} {st : St} {ρ ρm : Env} {σ σ' : Sig} {ups : List (Nat × Slot)} {a : Act} {o : Oper}

theorem apply_append (x y : List (Nat × Slot)) (ρ : Env) : apply (x ++ y) ρ = apply y (apply x ρ) := by simp [apply]

/-- A value is made, with rights to append that nobody else has. -/
theorem goal_put {an : Ann} {v : AV} {ow : List Nat} {c : Value} {g : Nat → Option Nat} (h : OK G an B0 st ρ σ a.tmps) (hf : Fit an (puts o.dst (.val v ow)))
    (hr : (execOp a.eval o).run G.P st.w = .ok (.value c) st.w) (hv : Rep st.w st.ext st.ι v c)
    (ho : ∀ i ∈ ow, ∀ a x, v.cells[i]? = some a → c.cells[i]? = some x → OwnC st.w st.ext a x (g i))
    (hp : ∀ i ∈ ow, ∀ b, g i = some b → ¬ B0 b ∧ b < st.w.heap.size ∧ ¬ st.S b)
    (hn : ∀ i ∈ ow, ∀ b, g i = some b → ∀ p, ¬ Has st.L ρ p b)
    (hi : ∀ i ∈ ow, ∀ j ∈ ow, ∀ b, g i = some b → g j = some b → i = j) : OpGoal G an B0 st a o (apply (puts o.dst (.val v ow)) ρ) σ := by
  cases hd : o.dst with
  | none =>
    refine ⟨c, st, .inl hr, ?_, Step.refl _ _⟩
    simpa [puts, apply, hd, Act.put] using h
  | some d =>
    obtain ⟨h1, h2⟩ := hf (d, .val v ow) (by simp [puts, hd])
    have hL := h.put h1 (fit_val h2) g hv ho hp (fun i hi b hb p _ => hn i hi b hb p) hi
    refine ⟨c, { st with L := st.L.setγ d g }, .inl hr, ?_, okL (st.L.setγ d g)⟩
    simpa [puts, apply, hd, put_tmps] using hL

theorem has_clear {L : Lay} {ρ : Env} {s : Nat} {v : AV} {ow : List Nat} (hs : ρ s = .val v ow) {p : Place} {b : Nat} (h : Has L (upd ρ s (.val v [])) p b) : Has L ρ p b ∧ ∀ i, p ≠ .own s i := by
  cases p with
  | box t =>
    by_cases ht : t = s
    · subst ht; simp [Has, upd_same, Slot.isLoc] at h
    · exact ⟨by simpa only [Has, upd_other _ _ _ ht] using h, by simp⟩
  | own t j =>
    by_cases ht : t = s
    · subst ht; simp [Has, upd_same, Slot.ows] at h
    · exact ⟨by simpa only [Has, upd_other _ _ _ ht] using h, by intro i hi; cases hi; exact ht rfl⟩

/-- What an operand owns is handed on. -/
theorem goal_take {t : TypeId} {x : Operand} {v : AV} (h : OK G E.an B0 st ρ σ a.tmps) (hs : Sub ρm ρ) (hv : opv G ρm t x = some v)
    (hf : Fit E.an (puts o.dst (.val v (opo ρm x)))) (hr : (execOp a.eval o).run G.P st.w = .ok (.value (a.eval x)) st.w) :
    OpGoal G E.an B0 st a o (apply (clr ρm x ++ puts o.dst (.val v (opo ρm x))) ρ) σ := by
  have hrep := opv_rep h rfl hs hv
  rw [apply_append]
  cases x with
  | tmp s =>
    simp only [opv] at hv
    split at hv
    · rename_i v' ow hρ
      simp at hv; subst hv
      have hρ' := hs.val hρ (by simp)
      have hc : clr ρm (.tmp s) = [(s, .val v' [])] := by simp [clr, hρ]
      have ho : opo ρm (.tmp s) = ow := by simp [opo, hρ]
      rw [hc]
      rw [ho] at hf ⊢
      have h1 := h.clear (x := s) (s := .val v' []) (.inl ⟨v', ow, [], hρ', rfl, fun _ hi => by cases hi⟩)
      have hsl := h.slot s
      rw [hρ'] at hsl
      have hplace : ∀ i ∈ ow, ∀ b, st.L.γ s i = some b → Has st.L ρ (.own s i) b := fun i hi b hb => ⟨by rw [hρ']; exact hi, hb⟩
      refine goal_put (g := st.L.γ s) h1 hf hr hrep (fun i hi aa xx ha hx => ?_) (fun i hi b hb => h.priv _ _ (hplace i hi b hb)) (fun i hi b hb p hp => ?_) (fun i hi j hj b hb hb' => ?_)
      · refine hsl.2 i hi aa xx ha ?_
        simpa [Act.eval] using hx
      · obtain ⟨k1, k2⟩ := has_clear hρ' hp
        exact k2 i (h.inj _ _ _ k1 (hplace i hi b hb))
      · have := h.inj _ _ _ (hplace i hi b hb) (hplace j hj b hb')
        cases this; rfl
    · simp at hv
  | const c =>
    have hc : clr ρm (.const c) = [] := rfl
    rw [hc]
    refine goal_put (g := fun _ => none) h hf hr hrep (fun i hi aa xx ha hx => ?_) (fun i hi b hb => by cases hb) (fun i hi b hb => by cases hb) (fun i hi j hj b hb => by cases hb)
    intro p n cap hxx
    subst hxx
    unfold opo at hi
    split at hi
    · rename_i h'; cases h'
    · rename_i h'
      simp at hi; subst hi
      injection h' with h'
      subst h'
      simp [Act.eval, Value.cells] at hx
      omega
    · cases hi
  | global g =>
    exact goal_put (g := fun _ => none) h hf hr hrep (fun i hi => by simp [opo] at hi) (fun i hi => by simp [opo] at hi) (fun i hi => by simp [opo] at hi) (fun i hi => by simp [opo] at hi)
  | func f =>
    exact goal_put (g := fun _ => none) h hf hr hrep (fun i hi => by simp [opo] at hi) (fun i hi => by simp [opo] at hi) (fun i hi => by simp [opo] at hi) (fun i hi => by simp [opo] at hi)

theorem sound_move {x : Operand} (ho : o.op = .move x ∨ o.op = .assign x) (h : OK G E.an B0 st ρ σ a.tmps) (hs : Sub ρm ρ) (hc : core1 G E o ρm = some ups) (hf : Fit E.an ups) :
    OpGoal G E.an B0 st a o (apply ups ρ) σ := by
  have hrun : (execOp a.eval o).run G.P st.w = .ok (.value (a.eval x)) st.w := by rcases ho with ho | ho <;> simp [execOp, ho]
  have hc' : (do
    let v ← opv G ρm o.type x
    if takes E.an o.dst x then some (clr ρm x ++ puts o.dst (.val v (opo ρm x))) else some (puts o.dst (.val v []))) = some ups := by
    rcases ho with ho | ho <;> simpa [core1, ho] using hc
  simp only [Option.bind_eq_bind, Option.bind_eq_some_iff] at hc'
  obtain ⟨v, hv, hc'⟩ := hc'
  split at hc'
  · simp at hc'; obtain rfl := hc'
    exact goal_take h hs hv (fun u hu => hf u (List.mem_append_right _ hu)) hrun
  · simp at hc'; obtain rfl := hc'
    exact goal_plain h hf hrun (opv_rep h rfl hs hv)

theorem sound_pick {c x y : Operand} (ho : o.op = .pick c x y) (h : OK G E.an B0 st ρ σ a.tmps) (hs : Sub ρm ρ) (hc : core1 G E o ρm = some ups) (hf : Fit E.an ups) :
    OpGoal G E.an B0 st a o (apply ups ρ) σ := by
  simp only [core1, ho, Option.bind_eq_bind, Option.bind_eq_some_iff] at hc
  obtain ⟨b, hb, hc⟩ := hc
  split at hc
  · rename_i b'
    rw [Option.bind_eq_some_iff] at hc
    obtain ⟨v, hv, hc⟩ := hc
    simp at hc; obtain rfl := hc
    have hb' := opv_rep h rfl hs hb
    cases hcv : a.eval c <;> rw [hcv] at hb' <;> cases hb'
    refine goal_plain h hf (c := if b' then a.eval x else a.eval y) ?_ ?_
    · simp [execOp, ho, hcv, asBool]
    · cases b' <;> simpa using opv_rep h rfl hs hv
  · simp at hc

theorem rep_bool_inv {w : World} {ext : Nat → Nat} {ι : List Nat} {b : Bool} {v : Value} (h : Rep w ext ι (.bool b) v) : v = .bool b := by cases h; rfl
theorem rep_int_inv {w : World} {ext : Nat → Nat} {ι : List Nat} {k : IntKind} {n : Int} {v : Value} (h : Rep w ext ι (.int k n) v) : v = .int k n := by cases h; rfl
theorem rep_nil_inv {w : World} {ext : Nat → Nat} {ι : List Nat} {v : Value} (h : Rep w ext ι .nilp v) : v = .pointer none := by cases h; rfl

theorem isNil_run {w : World} {ext : Nat → Nat} {ι : List Nat} {p : AV} {v : Value} {b : Bool} (hp : isNil p = some b) (h : Rep w ext ι p v) : ∃ x, v = .pointer x ∧ x.isNone = b := by
  unfold isNil at hp
  split at hp
  · simp at hp; subst hp; cases h; exact ⟨_, rfl, rfl⟩
  · simp at hp; subst hp; cases h; exact ⟨_, rfl, rfl⟩
  · simp at hp; subst hp; cases h; exact ⟨_, rfl, rfl⟩
  · simp at hp

theorem abin_run {P : Program} {w w' : World} {ext : Nat → Nat} {ι : List Nat} {op : BinOp} {t : TypeId} {x y : AV} {z : AV} {vx vy : Value} {ox oy : Operand} (hz : abin op x y = some z) (hx : Rep w ext ι x vx) (hy : Rep w ext ι y vy) :
    ∃ c, (do eqGuard op t ox oy vx vy; binOp op t vx vy : Sem Value).run P w' = .ok c w' ∧ Rep w ext ι z c := by
  have key : ∃ k a b, x = .int k a ∧ y = .int k b ∧ ∃ c, (do eqGuard op t ox oy (.int k a) (.int k b); binOp op t (.int k a) (.int k b) : Sem Value).run P w' = .ok c w' ∧ Rep w ext ι z c := by
    unfold abin at hz
    split at hz
    case h_14 => simp at hz
    all_goals (
      split at hz
      case isFalse => simp at hz
      case isTrue hk =>
        simp only [Option.some.injEq] at hz
        first
          | (subst hk; subst hz; refine ⟨_, _, _, rfl, rfl, _, ?_, by first | exact .int _ _ | exact .bool _⟩; simp [eqGuard, binOp, Op.intArith, Op.intBits, Op.intCmp]; done)
          | (obtain ⟨hk, hb⟩ := hk; subst hk; subst hz; refine ⟨_, _, _, rfl, rfl, _, ?_, .int _ _⟩; simp [eqGuard, binOp, Op.intDiv, hb]; done))
  obtain ⟨k, a, b, rfl, rfl, h⟩ := key
  rw [rep_int_inv hx, rep_int_inv hy]
  exact h

theorem equalIn_bool {P : Program} {t : TypeId} (hu : P.underlying t = some .bool) (w : World) (p q : Bool) (d : Nat) : (Op.equalIn (d + 1) t (.bool p) (.bool q)).run P w = .ok (p == q) w := by
  simp only [Op.equalIn, Sem.run_bind, run_underlying hu, Result.andThen_ok, Sem.run_pure]
theorem equalIn_nil {P : Program} {t e : TypeId} (hu : P.underlying t = some (.pointer e)) (w : World) (p : Option Addr) (d : Nat) : (Op.equalIn (d + 1) t (.pointer p) (.pointer none)).run P w = .ok p.isNone w := by
  cases p <;> simp only [Op.equalIn, Sem.run_bind, run_underlying hu, Result.andThen_ok, Sem.run_pure] <;> rfl
theorem equal_bool {P : Program} {t : TypeId} (hu : P.underlying t = some .bool) (w : World) (p q : Bool) : (Op.equal t (.bool p) (.bool q)).run P w = .ok (p == q) w := equalIn_bool hu w p q 9999
theorem equal_nil {P : Program} {t e : TypeId} (hu : P.underlying t = some (.pointer e)) (w : World) (p : Option Addr) : (Op.equal t (.pointer p) (.pointer none)).run P w = .ok p.isNone w := equalIn_nil hu w p 9999

theorem sound_binOp {op : BinOp} {t u : TypeId} {x y : Operand} (ho : o.op = .binOp op t x y u) (h : OK G E.an B0 st ρ σ a.tmps) (hs : Sub ρm ρ) (hc : core1 G E o ρm = some ups) (hf : Fit E.an ups) :
    OpGoal G E.an B0 st a o (apply ups ρ) σ := by
  simp only [core1, ho, Option.bind_eq_bind, Option.bind_eq_some_iff] at hc
  obtain ⟨p, hp, q, hq, hc⟩ := hc
  have rp := opv_rep h rfl hs hp
  have rq := opv_rep h rfl hs hq
  split at hc
  · rename_i hu
    split at hc
    · rename_i p' q'
      simp at hc; obtain rfl := hc
      have e1 := rep_bool_inv rp
      have e2 := rep_bool_inv rq
      exact goal_plain h hf (c := .bool (p' == q')) (by simp only [execOp, ho, e1, e2, eqGuard, binOp, Sem.run_bind, equal_bool hu, Result.andThen_ok, Sem.run_pure]; rfl) (.bool _)
    · rename_i p' q'
      simp at hc; obtain rfl := hc
      have e1 := rep_bool_inv rp
      have e2 := rep_bool_inv rq
      exact goal_plain h hf (c := .bool (p' != q')) (by simp only [execOp, ho, e1, e2, eqGuard, binOp, Sem.run_bind, equal_bool hu, Result.andThen_ok, Sem.run_pure]; rfl) (.bool _)
    · simp at hc
  · rename_i el hu
    split at hc
    · rw [Option.bind_eq_some_iff] at hc
      obtain ⟨b, hb, hc⟩ := hc
      simp at hc; obtain rfl := hc
      obtain ⟨v, e1, e3⟩ := isNil_run hb rp
      have e2 := rep_nil_inv rq
      refine goal_plain h hf (c := .bool b) ?_ (.bool _)
      simp only [execOp, ho, e1, e2, eqGuard, binOp, Sem.run_bind, equal_nil hu, Result.andThen_ok, Sem.run_pure, e3]; rfl
    · rw [Option.bind_eq_some_iff] at hc
      obtain ⟨b, hb, hc⟩ := hc
      simp at hc; obtain rfl := hc
      obtain ⟨v, e1, e3⟩ := isNil_run hb rp
      have e2 := rep_nil_inv rq
      refine goal_plain h hf (c := .bool (!b)) ?_ (.bool _)
      simp only [execOp, ho, e1, e2, eqGuard, binOp, Sem.run_bind, equal_nil hu, Result.andThen_ok, Sem.run_pure, e3]; rfl
    · simp at hc
  · rw [Option.bind_eq_some_iff] at hc
    obtain ⟨z, hz, hc⟩ := hc
    simp at hc; obtain rfl := hc
    obtain ⟨c, hr, hrep⟩ := abin_run (P := G.P) (w' := st.w) (t := t) (ox := x) (oy := y) hz rp rq
    refine goal_plain h hf (c := c) ?_ hrep
    simp only [execOp, ho]
    rw [Sem.run_bind, hr]; rfl

theorem sound_unOp {op : UnOp} {t : TypeId} {x : Operand} (ho : o.op = .unOp op t x) (h : OK G E.an B0 st ρ σ a.tmps) (hs : Sub ρm ρ) (hc : core1 G E o ρm = some ups) (hf : Fit E.an ups) :
    OpGoal G E.an B0 st a o (apply ups ρ) σ := by
  cases op <;> simp only [core1, ho, Option.bind_eq_bind, Option.bind_eq_some_iff] at hc <;> try (simp at hc; done)
  obtain ⟨p, hp, hc⟩ := hc
  split at hc
  · rename_i b
    simp at hc; obtain rfl := hc
    have e1 := rep_bool_inv (opv_rep h rfl hs hp)
    exact goal_plain h hf (c := .bool (!b)) (by simp [execOp, ho, e1, Op.unary]) (.bool _)
  · simp at hc

theorem sound_convert {s d : TypeId} {x : Operand} (ho : o.op = .convert s d x) (h : OK G E.an B0 st ρ σ a.tmps) (hs : Sub ρm ρ) (hc : core1 G E o ρm = some ups) (hf : Fit E.an ups) :
    OpGoal G E.an B0 st a o (apply ups ρ) σ := by
  simp only [core1, ho, Option.bind_eq_bind, Option.bind_eq_some_iff] at hc
  obtain ⟨p, hp, hc⟩ := hc
  split at hc
  · rename_i ds k k' n hs' hd
    simp at hc; obtain rfl := hc
    have e1 := rep_int_inv (opv_rep h rfl hs hp)
    refine goal_plain h hf (c := .int k (k.wrap n)) ?_ (.int _ _)
    simp [execOp, ho, e1, convert, run_underlying hs', run_underlying hd, Conv.intToInt]
  · simp at hc

theorem sound_makeInterface {t : TypeId} {x : Operand} (ho : o.op = .makeInterface t x) (h : OK G E.an B0 st ρ σ a.tmps) (hs : Sub ρm ρ) (hc : core1 G E o ρm = some ups) (hf : Fit E.an ups) :
    OpGoal G E.an B0 st a o (apply ups ρ) σ := by
  simp only [core1, ho, Option.bind_eq_bind, Option.bind_eq_some_iff] at hc
  obtain ⟨p, hp, hc⟩ := hc
  split at hc
  · simp at hc
  · simp at hc
  · rename_i hn1 hn2
    simp at hc; obtain rfl := hc
    refine goal_plain h hf (c := .iface t (a.eval x)) ?_ (.iface _ _ _ (opv_rep h rfl hs hp))
    cases hu : G.P.underlying t with
    | none => exact absurd hu hn2
    | some d => cases d <;> simp [execOp, ho, Instr.makeInterface, run_underlying hu] <;> exact absurd hu (hn1 _)

theorem mapM_rep {an : Ann} {tmps : Array Value} (h : OK G an B0 st ρ σ tmps) (ha : a.tmps = tmps) (hs : Sub ρm ρ) {t : TypeId} : ∀ {l : List Operand} {vs : List AV}, l.mapM (opv G ρm t) = some vs → Reps st.w st.ext st.ι vs (l.map a.eval) := by
  intro l
  induction l with
  | nil => intro vs hv; simp at hv; subst hv; exact .nil
  | cons x l ih =>
    intro vs hv
    simp only [List.mapM_cons, Option.bind_eq_bind, Option.bind_eq_some_iff, Option.pure_def] at hv
    obtain ⟨v, h1, vs', h2, h3⟩ := hv
    simp at h3; subst h3
    exact .cons _ _ _ _ (opv_rep h ha hs h1) (ih h2)

theorem sound_makeFunc {fn : Fn} {fs cs : Array Operand} (ho : o.op = .makeFunc fn fs cs) (h : OK G E.an B0 st ρ σ a.tmps) (hs : Sub ρm ρ) (hc : core1 G E o ρm = some ups) (hf : Fit E.an ups) :
    OpGoal G E.an B0 st a o (apply ups ρ) σ := by
  cases fn <;> simp only [core1, ho, Option.bind_eq_bind, Option.bind_eq_some_iff] at hc <;> try (simp at hc; done)
  rename_i g
  obtain ⟨f', hf', c', hc', hc⟩ := hc
  simp at hc; obtain rfl := hc
  refine goal_plain h hf (c := .func (.func g) (fs.map a.eval) (cs.map a.eval)) (by simp [execOp, ho, Instr.makeFunc]) (.func _ _ _ _ _ ?_ ?_)
  · simpa using mapM_rep h rfl hs hf'
  · simpa using mapM_rep h rfl hs hc'

theorem sound_extract {x : Operand} {i : Nat} (ho : o.op = .extract x i) (h : OK G E.an B0 st ρ σ a.tmps) (hs : Sub ρm ρ) (hc : core1 G E o ρm = some ups) (hf : Fit E.an ups) :
    OpGoal G E.an B0 st a o (apply ups ρ) σ := by
  simp only [core1, ho, Option.bind_eq_bind, Option.bind_eq_some_iff] at hc
  obtain ⟨p, hp, hc⟩ := hc
  split at hc
  · rename_i vs
    rw [Option.bind_eq_some_iff] at hc
    obtain ⟨v, hv, hc⟩ := hc
    simp at hc; obtain rfl := hc
    have hr := opv_rep h rfl hs hp
    generalize he : a.eval x = ev at hr
    cases hr with
    | tuple _ us hus =>
      obtain ⟨c, hc1, hc2⟩ := hus.get hv
      refine goal_plain h hf (c := c) ?_ hc2
      have : us[i]? = some c := by simpa using hc1
      simp [execOp, ho, he, Instr.extract, this]
  · simp at hc

end Go.AI

