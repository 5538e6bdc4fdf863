/- The abstract machine: what abstract values say of values in a world. -/
import Derived.Test.YtdpamhejneicdaaGreatDoorZAI1
import Derived.Laws.Cells
import Derived.Laws.CopyRow
import Derived.Laws.Rows
import Derived.Laws.Tables
import Derived.Below
namespace Go.AI
set_option linter.unusedVariables false
set_option linter.unusedSimpArgs false
open Go

mutual
inductive Rep (w : World) (ext : Nat → Nat) (ι : List Nat) : AV → Value → Prop
  | any (v : Value) : Rep w ext ι .any v
  | int (k : IntKind) (n : Int) : Rep w ext ι (.int k n) (.int k n)
  | bool (b : Bool) : Rep w ext ι (.bool b) (.bool b)
  | str (s : ByteArray) : Rep w ext ι (.str s) (.string s)
  | nilp : Rep w ext ι .nilp (.pointer none)
  | ptr (id off b : Nat) : ι[id]? = some b → Rep w ext ι (.ptr id off) (.pointer (some ⟨b, off, none⟩))
  | iptr (cs : List AV) (vs : List Value) (b off : Nat) : Reps w ext ι cs vs → (∀ x ∈ vs, x.oneCell' = true) →
      (∀ i v, vs[i]? = some v → w.cell? ⟨b, off + i, none⟩ = some v ∧ off + i < ext b) → Rep w ext ι (.iptr cs) (.pointer (some ⟨b, off, none⟩))
  | slice (sz : Nat) (es : List AV) (a : Option Addr) (n cap : Nat) (vs : List Value) : n = es.length → n ≤ cap → (∀ e ∈ es, e.cells.length = sz) →
      Reps w ext ι (es.flatMap AV.cells) vs → (∀ x ∈ vs, x.oneCell' = true) →
      (vs = [] ∨ ∃ b off, a = some ⟨b, off, none⟩ ∧ ∀ i v, vs[i]? = some v → w.cell? ⟨b, off + i, none⟩ = some v ∧ off + i < ext b) →
      Rep w ext ι (.slice sz es) (.slice a n cap)
  | nilFunc : Rep w ext ι .nilFunc .nilFunc
  | func (g : FuncId) (first cap : List AV) (f c : Array Value) : Reps w ext ι first f.toList → Reps w ext ι cap c.toList → Rep w ext ι (.func g first cap) (.func (.func g) f c)
  | yield (id b : Nat) : ι[id]? = some b → Rep w ext ι (.yield id) (.func (.yield b) #[] #[])
  | nilIface : Rep w ext ι .nilIface .nilIface
  | iface (t : TypeId) (v : AV) (v' : Value) : Rep w ext ι v v' → Rep w ext ι (.iface t v) (.iface t v')
  | nilMap : Rep w ext ι .nilMap (.map none)
  | agg (cs : List AV) (vs : Array Value) : Reps w ext ι cs vs.toList → (∀ v ∈ vs.toList, v.oneCell' = true) → Rep w ext ι (.agg cs) (.agg vs)
  | tuple (cs : List AV) (vs : Array Value) : Reps w ext ι cs vs.toList → Rep w ext ι (.tuple cs) (.tuple vs)
inductive Reps (w : World) (ext : Nat → Nat) (ι : List Nat) : List AV → List Value → Prop
  | nil : Reps w ext ι [] []
  | cons (a : AV) (v : Value) (as : List AV) (vs : List Value) : Rep w ext ι a v → Reps w ext ι as vs → Reps w ext ι (a :: as) (v :: vs)
end

structure Grow (w : World) (ext : Nat → Nat) (ι : List Nat) (w' : World) (ext' : Nat → Nat) (ι' : List Nat) : Prop where
  cell : ∀ b o v, o < ext b → w.cell? ⟨b, o, none⟩ = some v → w'.cell? ⟨b, o, none⟩ = some v
  ext : ∀ b, ext b ≤ ext' b
  pre : ι <+: ι'

theorem Grow.refl (w : World) (ext : Nat → Nat) (ι : List Nat) : Grow w ext ι w ext ι := ⟨fun _ _ _ _ h => h, fun _ => Nat.le_refl _, List.prefix_refl _⟩
theorem Grow.trans {w w1 w2 : World} {ext ext1 ext2 : Nat → Nat} {ι ι1 ι2 : List Nat} (h : Grow w ext ι w1 ext1 ι1) (k : Grow w1 ext1 ι1 w2 ext2 ι2) : Grow w ext ι w2 ext2 ι2 :=
  ⟨fun b o v ho hc => k.cell b o v (Nat.lt_of_lt_of_le ho (h.ext b)) (h.cell b o v ho hc), fun b => Nat.le_trans (h.ext b) (k.ext b), h.pre.trans k.pre⟩

theorem pre_get {ι ι' : List Nat} (h : ι <+: ι') {i b : Nat} (hi : ι[i]? = some b) : ι'[i]? = some b := by
  obtain ⟨t, rfl⟩ := h
  rw [List.getElem?_append_left (List.getElem?_eq_some_iff.1 hi).1]; exact hi

theorem flatL_append (a b : List AV) : AV.flatL (a ++ b) = (AV.flatL a && AV.flatL b) := by
  induction a with
  | nil => simp [AV.flatL]
  | cons x a ih => simp [AV.flatL, ih, Bool.and_assoc]

theorem flat_cells {v : AV} (h : v.flat = true) : AV.flatL v.cells = true := by
  cases v <;> simp_all [AV.cells, AV.flatL, AV.flat]

theorem flatL_flatMap {es : List AV} (h : AV.flatL es = true) : AV.flatL (es.flatMap AV.cells) = true := by
  induction es with
  | nil => simp [AV.flatL]
  | cons x a ih =>
    simp only [AV.flatL, Bool.and_eq_true] at h
    simp [flatL_append, flat_cells h.1, ih h.2]

section
variable {w w' : World} {ext ext' : Nat → Nat} {ι ι' : List Nat}

mutual
theorem Rep.mono (hg : Grow w ext ι w' ext' ι') {a : AV} {v : Value} : Rep w ext ι a v → Rep w' ext' ι' a v
  | .any v => .any v
  | .int k n => .int k n
  | .bool b => .bool b
  | .str s => .str s
  | .nilp => .nilp
  | .ptr id off b h => .ptr id off b (pre_get hg.pre h)
  | .iptr cs vs b off hr h1 hc => .iptr cs vs b off (hr.mono hg) h1 fun i v hi => ⟨hg.cell _ _ _ (hc i v hi).2 (hc i v hi).1, Nat.lt_of_lt_of_le (hc i v hi).2 (hg.ext b)⟩
  | .slice sz es a n cap vs h1 h2 h3 hr h4 hc => .slice sz es a n cap vs h1 h2 h3 (hr.mono hg) h4 (hc.imp id fun ⟨b, off, ha, hc⟩ =>
      ⟨b, off, ha, fun i v hi => ⟨hg.cell _ _ _ (hc i v hi).2 (hc i v hi).1, Nat.lt_of_lt_of_le (hc i v hi).2 (hg.ext b)⟩⟩)
  | .nilFunc => .nilFunc
  | .func g first cap f c h1 h2 => .func g first cap f c (h1.mono hg) (h2.mono hg)
  | .yield id b h => .yield id b (pre_get hg.pre h)
  | .nilIface => .nilIface
  | .iface t v v' h => .iface t v v' (h.mono hg)
  | .nilMap => .nilMap
  | .agg cs vs h h1 => .agg cs vs (h.mono hg) h1
  | .tuple cs vs h => .tuple cs vs (h.mono hg)
theorem Reps.mono (hg : Grow w ext ι w' ext' ι') {as : List AV} {vs : List Value} : Reps w ext ι as vs → Reps w' ext' ι' as vs
  | .nil => .nil
  | .cons a v as vs h hs => .cons a v as vs (h.mono hg) (hs.mono hg)
end

mutual
theorem Rep.flatι {a : AV} {v : Value} (ι' : List Nat) : Rep w ext ι a v → a.flat = true → Rep w ext ι' a v
  | .any v, _ => .any v
  | .int k n, _ => .int k n
  | .bool b, _ => .bool b
  | .str s, _ => .str s
  | .nilp, _ => .nilp
  | .ptr id off b h, hf => by simp [AV.flat] at hf
  | .iptr cs vs b off hr h1 hc, hf => .iptr cs vs b off (hr.flatι ι' (by simpa [AV.flat] using hf)) h1 hc
  | .slice sz es a n cap vs h1 h2 h3 hr h4 hc, hf => .slice sz es a n cap vs h1 h2 h3 (hr.flatι ι' (flatL_flatMap (by simpa [AV.flat] using hf))) h4 hc
  | .nilFunc, _ => .nilFunc
  | .func g first cap f c h1 h2, hf => by
    simp only [AV.flat, Bool.and_eq_true] at hf
    exact .func g first cap f c (h1.flatι ι' hf.1) (h2.flatι ι' hf.2)
  | .yield id b h, hf => by simp [AV.flat] at hf
  | .nilIface, _ => .nilIface
  | .iface t v v' h, hf => .iface t v v' (h.flatι ι' (by simpa [AV.flat] using hf))
  | .nilMap, _ => .nilMap
  | .agg cs vs h h1, hf => .agg cs vs (h.flatι ι' (by simpa [AV.flat] using hf)) h1
  | .tuple cs vs h, hf => .tuple cs vs (h.flatι ι' (by simpa [AV.flat] using hf))
theorem Reps.flatι {as : List AV} {vs : List Value} (ι' : List Nat) : Reps w ext ι as vs → AV.flatL as = true → Reps w ext ι' as vs
  | .nil, _ => .nil
  | .cons a v as vs h hs, hf => by
    simp only [AV.flatL, Bool.and_eq_true] at hf
    exact .cons a v as vs (h.flatι ι' hf.1) (hs.flatι ι' hf.2)
end


theorem Reps.length {as : List AV} {vs : List Value} (h : Reps w ext ι as vs) : as.length = vs.length := by
  induction as generalizing vs with
  | nil => cases h; rfl
  | cons a as ih => cases h with | cons _ v _ vs h hs => simp [ih hs]

theorem Reps.get {as : List AV} {vs : List Value} (h : Reps w ext ι as vs) {i : Nat} {a : AV} (hi : as[i]? = some a) : ∃ v, vs[i]? = some v ∧ Rep w ext ι a v := by
  induction as generalizing vs i with
  | nil => simp at hi
  | cons x as ih =>
    cases h with
    | cons _ v _ vs h hs =>
      cases i with
      | zero => simp at hi; subst hi; exact ⟨v, rfl, h⟩
      | succ i => simpa using ih hs (by simpa using hi)

theorem Reps.append {as bs : List AV} {vs us : List Value} (h : Reps w ext ι as vs) (k : Reps w ext ι bs us) : Reps w ext ι (as ++ bs) (vs ++ us) := by
  induction as generalizing vs with
  | nil => cases h; exact k
  | cons a as ih => cases h with | cons _ v _ vs h hs => exact .cons _ _ _ _ h (ih hs)

theorem Reps.take {as : List AV} {vs : List Value} (h : Reps w ext ι as vs) (n : Nat) : Reps w ext ι (as.take n) (vs.take n) := by
  induction as generalizing vs n with
  | nil => cases h; simp; exact .nil
  | cons a as ih =>
    cases h with
    | cons _ v _ vs h hs =>
      cases n with
      | zero => exact .nil
      | succ n => exact .cons _ _ _ _ h (ih hs n)

theorem Reps.drop {as : List AV} {vs : List Value} (h : Reps w ext ι as vs) (n : Nat) : Reps w ext ι (as.drop n) (vs.drop n) := by
  induction as generalizing vs n with
  | nil => cases h; simp; exact .nil
  | cons a as ih =>
    cases h with
    | cons _ v _ vs h hs =>
      cases n with
      | zero => exact .cons _ _ _ _ h hs
      | succ n => exact ih hs n

theorem Reps.splice {as bs : List AV} {vs us : List Value} (h : Reps w ext ι as vs) (k : Reps w ext ι bs us) (off : Nat) :
    Reps w ext ι (AI.splice as off bs) (vs.take off ++ us ++ vs.drop (off + us.length)) := by
  unfold AI.splice
  rw [k.length]
  exact ((h.take off).append k).append (h.drop _)

theorem Reps.split {as bs : List AV} {vs : List Value} (h : Reps w ext ι (as ++ bs) vs) : ∃ us ts, vs = us ++ ts ∧ Reps w ext ι as us ∧ Reps w ext ι bs ts := by
  have := h.take as.length
  have h2 := h.drop as.length
  simp at this h2
  exact ⟨_, _, (List.take_append_drop as.length vs).symm, this, h2⟩

theorem Rep.one {a : AV} {v : Value} (h : Rep w ext ι a v) (ho : a.okc = true) : (∀ c ∈ v.cells.toList, c.oneCell' = true) ∧ Reps w ext ι a.cells v.cells.toList := by
  have hh := h
  cases h with
  | any v => simp [AV.okc] at ho
  | tuple => simp [AV.okc] at ho
  | agg cs vs h h1 => exact ⟨h1, h⟩
  | _ => exact ⟨by simp [Value.cells, Value.oneCell'], .cons _ _ _ _ hh .nil⟩

theorem Rep.notAgg {a : AV} {v : Value} (h : Rep w ext ι a v) (ho : a.okc = true) (hn : ∀ cs, a ≠ .agg cs) : v.oneCell' = true ∧ v.cells = #[v] ∧ a.cells = [a] := by
  cases h <;> simp_all [AV.okc, AV.cells, Value.cells, Value.oneCell']

end
end Go.AI
