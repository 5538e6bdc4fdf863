/- The abstract machine: constants and operands. -/
import Derived.Test.YtdpamhejneicdaaGreatDoorZAI3
namespace Go.AI
set_option linter.unusedVariables false
set_option linter.unusedSimpArgs false
open Go

section
variable {w : World} {ext : Nat → Nat} {ι : List Nat}

theorem nav_rep {v : Value} {a : AV} (h : nav v = some a) : Rep w ext ι a v ∧ v.oneCell' = true ∧ v.cells = #[v] ∧ a.cells = [a] ∧ a.okc = true := by
  unfold nav at h
  split at h
  all_goals try (simp at h; subst h; exact ⟨by constructor, rfl, rfl, rfl, rfl⟩)
  · split at h
    · rename_i g first cap hc
      simp at h; subst h
      refine ⟨.func _ _ _ _ _ ?_ ?_, rfl, rfl, rfl, rfl⟩
      · have : first.toList = [] := by simpa using hc.1
        rw [this]; exact .nil
      · have : cap.toList = [] := by simpa using hc.2
        rw [this]; exact .nil
    · simp at h
  · simp at h

theorem foldlM_inv {α β : Type} (f : β → α → Option β) (I : β → Prop) (l : List α) (hf : ∀ b x b', x ∈ l → I b → f b x = some b' → I b') :
    ∀ b b', I b → l.foldlM f b = some b' → I b' := by
  induction l with
  | nil => intro b b' hb h; simp at h; subst h; exact hb
  | cons x l ih =>
    intro b b' hb h
    simp only [List.foldlM_cons, Option.bind_eq_bind, Option.bind_eq_some_iff] at h
    obtain ⟨b1, h1, h2⟩ := h
    exact ih (fun b x b' hx => hf b x b' (List.mem_cons_of_mem _ hx)) b1 b' (hf b x b1 (List.mem_cons_self ..) hb h1) h2

theorem extract_list (cs : Array Value) (o n : Nat) : (cs.extract o (o + n)).toList = (cs.toList.drop o).take n := by
  simp [Array.toList_extract, List.extract]

theorem take_part {l : List Value} {k m : Nat} {us : List Value} (h : (l.drop k).take m = us) (_ : us.length = m) : l.take (k + m) = l.take k ++ us := by
  rw [← h, List.take_add]

/-- A cell of a constant: no room behind a slice. -/
def Good (x : Value) : Prop := x.oneCell' = true ∧ ∀ p n cap, x = .slice p n cap → cap = n

theorem tcells_good {P : Program} : ∀ (n : Nat) (t : TypeId) (v : Value) (cs : List AV), tcells P n t v = some cs →
    Reps w ext ι cs v.cells.toList ∧ (∀ x ∈ v.cells.toList, Good x) ∧ (∀ c ∈ cs, c.okc = true ∧ c.cells = [c]) := by
  intro n
  induction n with
  | zero => intro t v cs h; simp [tcells] at h
  | succ n ih =>
    intro t v cs h
    have step : ∀ (fs : Array Value) (acc : List AV) (off sz : Nat) (ft : TypeId) (l : List AV),
        acc.length = off → (if aggT P ft then tcells P n ft (.agg (fs.extract off (off + P.cellsOf ft))) else (fs[off]?).bind (tcells P n ft)) = some l → l.length = P.cellsOf ft →
        Reps w ext ι acc (fs.toList.take acc.length) ∧ (∀ x ∈ fs.toList.take acc.length, Good x) ∧ (∀ c ∈ acc, c.okc = true ∧ c.cells = [c]) →
        Reps w ext ι (acc ++ l) (fs.toList.take (acc ++ l).length) ∧ (∀ x ∈ fs.toList.take (acc ++ l).length, Good x) ∧ (∀ c ∈ acc ++ l, c.okc = true ∧ c.cells = [c]) := by
      intro fs acc off sz ft l hoff hl hlen ⟨h1, h2, h3⟩
      have key : ∃ us, (fs.toList.drop off).take l.length = us ∧ us.length = l.length ∧ Reps w ext ι l us ∧ (∀ x ∈ us, Good x) ∧ (∀ c ∈ l, c.okc = true ∧ c.cells = [c]) := by
        split at hl
        · obtain ⟨k1, k2, k3⟩ := ih _ _ _ hl
          simp only [Value.cells, extract_list] at k1 k2
          rw [← hlen] at k1 k2
          exact ⟨_, rfl, k1.length.symm, k1, k2, k3⟩
        · rw [Option.bind_eq_some_iff] at hl
          obtain ⟨x, hx, hl⟩ := hl
          obtain ⟨k1, k2, k3⟩ := ih _ _ _ hl
          have hcell : x.cells = #[x] ∨ ∃ c, x = .agg c := by cases x <;> simp [Value.cells]
          rename_i hagg
          have hx1 : x.cells = #[x] := by
            rcases hcell with h | ⟨c, rfl⟩
            · exact h
            · exfalso
              cases n with
              | zero => simp [tcells] at hl
              | succ n =>
                simp only [tcells] at hl
                unfold aggT at hagg
                split at hl <;> simp_all [nav]
          rw [hx1] at k1 k2
          have hl1 : l.length = 1 := by simpa using k1.length
          refine ⟨[x], ?_, by simp [hl1], k1, k2, k3⟩
          rw [hl1]
          have hx' : fs.toList[off]? = some x := by simpa using hx
          have hlt := (List.getElem?_eq_some_iff.1 hx').1
          rw [List.drop_eq_getElem_cons hlt]
          have := (List.getElem?_eq_some_iff.1 hx').2
          simp [← this]
      obtain ⟨us, hus, hul, hr, hone, hokc⟩ := key
      have htake : fs.toList.take (acc ++ l).length = fs.toList.take acc.length ++ us := by
        rw [List.length_append]; exact take_part (by rw [hoff]; exact hus) hul
      rw [htake]
      refine ⟨h1.append hr, ?_, ?_⟩
      · intro x hx; rcases List.mem_append.1 hx with hx | hx
        · exact h2 x hx
        · exact hone x hx
      · intro x hx; rcases List.mem_append.1 hx with hx | hx
        · exact h3 x hx
        · exact hokc x hx
    have fin : ∀ (fs : Array Value) (l : List AV), l.length = fs.size → Reps w ext ι l (fs.toList.take l.length) ∧ (∀ x ∈ fs.toList.take l.length, Good x) ∧ (∀ c ∈ l, c.okc = true ∧ c.cells = [c]) →
        Reps w ext ι l fs.toList ∧ (∀ x ∈ fs.toList, Good x) ∧ (∀ c ∈ l, c.okc = true ∧ c.cells = [c]) := by
      intro fs l hl h
      rw [hl, List.take_of_length_le (by simp)] at h; exact h
    simp only [tcells] at h
    split at h
    · simp at h; subst h
      simp only [Value.cells]
      refine ⟨.cons _ _ _ _ (.slice _ _ _ _ _ [] rfl (Nat.le_refl _) (fun _ h => by cases h) .nil (fun _ h => by cases h) (.inl rfl)) .nil, ?_, ?_⟩
      · intro x hx; simp at hx; subst hx; exact ⟨rfl, fun p n cap h => by cases h; rfl⟩
      · intro x hx; simp at hx; subst hx; exact ⟨rfl, rfl⟩
    · simp at h
    · rename_i fs cells hu
      rw [Option.bind_eq_some_iff] at h
      obtain ⟨l, hl, h⟩ := h
      split at h
      · rename_i hlen
        simp at h; subst h
        simp only [Value.cells]
        refine fin cells l hlen (foldlM_inv _ (fun acc => Reps w ext ι acc (cells.toList.take acc.length) ∧ (∀ x ∈ cells.toList.take acc.length, Good x) ∧ (∀ c ∈ acc, c.okc = true ∧ c.cells = [c])) _ ?_ [] l ⟨by simp; exact .nil, by simp, by simp⟩ hl)
        intro acc f acc' _ hacc hf
        split at hf
        · rename_i hoff
          rw [Option.bind_eq_some_iff] at hf
          obtain ⟨l', hl', hf⟩ := hf
          split at hf
          · rename_i hlen'
            simp at hf; subst hf
            exact step cells acc f.offset 0 f.type l' hoff hl' hlen' hacc
          · simp at hf
        · simp at hf
      · simp at h
    · rename_i m e cells hu
      rw [Option.bind_eq_some_iff] at h
      obtain ⟨l, hl, h⟩ := h
      split at h
      · rename_i hlen
        simp at h; subst h
        simp only [Value.cells]
        refine fin cells l hlen (foldlM_inv _ (fun acc => Reps w ext ι acc (cells.toList.take acc.length) ∧ (∀ x ∈ cells.toList.take acc.length, Good x) ∧ (∀ c ∈ acc, c.okc = true ∧ c.cells = [c])) _ ?_ [] l ⟨by simp; exact .nil, by simp, by simp⟩ hl)
        intro acc i acc' _ hacc hf
        split at hf
        · rename_i hoff
          rw [Option.bind_eq_some_iff] at hf
          obtain ⟨l', hl', hf⟩ := hf
          split at hf
          · rename_i hlen'
            simp at hf; subst hf
            exact step cells acc _ 0 e l' hoff hl' hlen' hacc
          · simp at hf
        · simp at hf
      · simp at h
    · simp at h
    · simp at h
    · rw [Option.map_eq_some_iff] at h
      obtain ⟨a, ha, rfl⟩ := h
      obtain ⟨k1, k2, k3, k4, k5⟩ := nav_rep (w := w) (ext := ext) (ι := ι) ha
      rw [k3]
      refine ⟨.cons _ _ _ _ k1 .nil, ?_, ?_⟩
      · intro x hx; simp at hx; subst hx; exact ⟨k2, fun p n cap h => by subst h; simp [nav] at ha⟩
      · intro x hx; simp at hx; subst hx; exact ⟨k5, k4⟩

theorem tcells_rep {P : Program} (n : Nat) (t : TypeId) (v : Value) (cs : List AV) (h : tcells P n t v = some cs) :
    Reps w ext ι cs v.cells.toList ∧ (∀ x ∈ v.cells.toList, x.oneCell' = true) ∧ (∀ c ∈ cs, c.okc = true ∧ c.cells = [c]) :=
  have h := tcells_good (w := w) (ext := ext) (ι := ι) n t v cs h
  ⟨h.1, fun x hx => (h.2.1 x hx).1, h.2.2⟩

theorem joinC_rep {P : Program} {t : TypeId} {v : Value} {n : Nat} {cs : List AV} {a : AV} (h : tcells P n t v = some cs) (hj : joinC (aggT P t) cs = some a) :
    Rep w ext ι a v ∧ a.okc = true ∧ a.cells = cs := by
  obtain ⟨h1, h2, h3⟩ := tcells_rep (w := w) (ext := ext) (ι := ι) n t v cs h
  unfold joinC at hj
  split at hj
  · rename_i hagg
    simp at hj; subst hj
    have hv : ∃ c, v = .agg c := by
      cases n with
      | zero => simp [tcells] at h
      | succ n =>
        simp only [tcells] at h
        unfold aggT at hagg
        split at h <;> simp_all
    obtain ⟨c, rfl⟩ := hv
    exact ⟨.agg _ _ h1 h2, rfl, rfl⟩
  · rename_i hagg
    split at hj
    · rename_i c
      split at hj
      · simp at hj
      · simp at hj; subst hj
        have hc := h3 c (by simp)
        have hv : v.cells = #[v] := by
          have hcell : v.cells = #[v] ∨ ∃ c, v = .agg c := by cases v <;> simp [Value.cells]
          rcases hcell with h' | ⟨c', rfl⟩
          · exact h'
          · exfalso
            cases n with
            | zero => simp [tcells] at h
            | succ n =>
              simp only [tcells] at h
              unfold aggT at hagg
              split at h <;> simp_all [nav]
        rw [hv] at h1
        cases h1 with
        | cons _ _ _ _ hr _ => exact ⟨hr, hc.1, hc.2⟩
    · simp at hj

theorem cval_rep {P : Program} {t : TypeId} {v : Value} {a : AV} (h : cval P t v = some a) : Rep w ext ι a v := by
  unfold cval at h
  split at h
  · rename_i b hb
    split at h
    · simp at h
    · simp at h; subst h; exact (nav_rep hb).1
  · rw [Option.bind_eq_some_iff] at h
    obtain ⟨cs, h1, h2⟩ := h
    exact (joinC_rep h1 h2).1

end
end Go.AI
