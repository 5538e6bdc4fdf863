/- The abstract machine: older boxes name older boxes alone. -/
import Derived.Test.YtdpamhejneicdaaGreatDoorZAI17
namespace Go.AI
set_option linter.unusedVariables false
set_option linter.unusedSimpArgs false
open Go

mutual
/-- Each shared name in it is below n. -/
def AV.und (n : Nat) : AV → Bool
  | .ptr id _ => decide (id < n)
  | .yield id => decide (id < n)
  | .iptr cs => AV.undL n cs
  | .slice _ es => AV.undL n es
  | .func _ a b => AV.undL n a && AV.undL n b
  | .iface _ v => v.und n
  | .agg cs => AV.undL n cs
  | .tuple cs => AV.undL n cs
  | _ => true
def AV.undL (n : Nat) : List AV → Bool
  | [] => true
  | v :: r => v.und n && AV.undL n r
end

theorem undL_append (n : Nat) (a b : List AV) : AV.undL n (a ++ b) = (AV.undL n a && AV.undL n b) := by
  induction a with
  | nil => simp [AV.undL]
  | cons x a ih => simp [AV.undL, ih, Bool.and_assoc]

theorem und_cells (n : Nat) (v : AV) : AV.undL n v.cells = v.und n := by
  cases v <;> simp [AV.cells, AV.undL, AV.und]

theorem undL_flatMap (n : Nat) (es : List AV) : AV.undL n (es.flatMap AV.cells) = AV.undL n es := by
  induction es with
  | nil => rfl
  | cons x a ih => simp [undL_append, und_cells, ih, AV.undL]

theorem undL_mem {n : Nat} {l : List AV} : AV.undL n l = true ↔ ∀ v ∈ l, v.und n = true := by
  induction l with
  | nil => simp [AV.undL]
  | cons x a ih => simp [AV.undL, ih]

mutual
theorem AV.flat_und (n : Nat) : ∀ (a : AV), a.flat = true → a.und n = true
  | .any, _ => rfl
  | .int .., _ => rfl
  | .bool _, _ => rfl
  | .str _, _ => rfl
  | .nilp, _ => rfl
  | .ptr .., h => by simp [AV.flat] at h
  | .iptr cs, h => by simp only [AV.flat] at h; simp only [AV.und]; exact AV.flatL_und n cs h
  | .slice _ es, h => by simp only [AV.flat] at h; simp only [AV.und]; exact AV.flatL_und n es h
  | .nilFunc, _ => rfl
  | .func _ a b, h => by
    simp only [AV.flat, Bool.and_eq_true] at h
    simp only [AV.und, Bool.and_eq_true]
    exact ⟨AV.flatL_und n a h.1, AV.flatL_und n b h.2⟩
  | .yield _, h => by simp [AV.flat] at h
  | .nilIface, _ => rfl
  | .iface _ v, h => by simp only [AV.flat] at h; simp only [AV.und]; exact AV.flat_und n v h
  | .nilMap, _ => rfl
  | .agg cs, h => by simp only [AV.flat] at h; simp only [AV.und]; exact AV.flatL_und n cs h
  | .tuple cs, h => by simp only [AV.flat] at h; simp only [AV.und]; exact AV.flatL_und n cs h
theorem AV.flatL_und (n : Nat) : ∀ (l : List AV), AV.flatL l = true → AV.undL n l = true
  | [], _ => rfl
  | v :: r, h => by
    simp only [AV.flatL, Bool.and_eq_true] at h
    simp only [AV.undL, Bool.and_eq_true]
    exact ⟨AV.flat_und n v h.1, AV.flatL_und n r h.2⟩
end

section
variable {w : World} {ext : Nat → Nat} {ι : List Nat}
mutual
theorem Rep.und {a : AV} {v : Value} : Rep w ext ι a v → a.und ι.length = true
  | .any _ => rfl
  | .int .. => rfl
  | .bool _ => rfl
  | .str _ => rfl
  | .nilp => rfl
  | .ptr id off b h => by simp only [AV.und, decide_eq_true_eq]; exact (List.getElem?_eq_some_iff.1 h).1
  | .iptr cs vs b off hr _ hc => by simp only [AV.und]; exact hr.undL
  | .slice sz es a n cap vs h1 h2 h3 hr _ hc => by simp only [AV.und]; rw [← undL_flatMap]; exact hr.undL
  | .nilFunc => rfl
  | .func g first cap f c h1 h2 => by simp only [AV.und, Bool.and_eq_true]; exact ⟨h1.undL, h2.undL⟩
  | .yield id b h => by simp only [AV.und, decide_eq_true_eq]; exact (List.getElem?_eq_some_iff.1 h).1
  | .nilIface => rfl
  | .iface t v v' h => by simp only [AV.und]; exact h.und
  | .nilMap => rfl
  | .agg cs vs h h1 => by simp only [AV.und]; exact h.undL
  | .tuple cs vs h => by simp only [AV.und]; exact h.undL
theorem Reps.undL {as : List AV} {vs : List Value} : Reps w ext ι as vs → AV.undL ι.length as = true
  | .nil => rfl
  | .cons a v as vs h hs => by simp only [AV.undL, Bool.and_eq_true]; exact ⟨h.und, hs.undL⟩
end

theorem take_get {ι : List Nat} {i m b : Nat} (h : ι[i]? = some b) (hi : i < m) : (ι.take m)[i]? = some b := by rw [List.getElem?_take_of_lt hi]; exact h

mutual
theorem Rep.cut {a : AV} {v : Value} (m : Nat) : Rep w ext ι a v → a.und m = true → Rep w ext (ι.take m) a v
  | .any v, _ => .any v
  | .int k n, _ => .int k n
  | .bool b, _ => .bool b
  | .str s, _ => .str s
  | .nilp, _ => .nilp
  | .ptr id off b h, hb => .ptr id off b (take_get h (by simpa [AV.und] using hb))
  | .iptr cs vs b off hr h1 hc, hb => .iptr cs vs b off (hr.cut m (by simpa [AV.und] using hb)) h1 hc
  | .slice sz es a n cap vs h1 h2 h3 hr h4 hc, hb => .slice sz es a n cap vs h1 h2 h3 (hr.cut m (by rw [undL_flatMap]; simpa [AV.und] using hb)) h4 hc
  | .nilFunc, _ => .nilFunc
  | .func g first cap f c h1 h2, hb => by
    simp only [AV.und, Bool.and_eq_true] at hb
    exact .func g first cap f c (h1.cut m hb.1) (h2.cut m hb.2)
  | .yield id b h, hb => .yield id b (take_get h (by simpa [AV.und] using hb))
  | .nilIface, _ => .nilIface
  | .iface t v v' h, hb => .iface t v v' (h.cut m (by simpa [AV.und] using hb))
  | .nilMap, _ => .nilMap
  | .agg cs vs h h1, hb => .agg cs vs (h.cut m (by simpa [AV.und] using hb)) h1
  | .tuple cs vs h, hb => .tuple cs vs (h.cut m (by simpa [AV.und] using hb))
theorem Reps.cut {as : List AV} {vs : List Value} (m : Nat) : Reps w ext ι as vs → AV.undL m as = true → Reps w ext (ι.take m) as vs
  | .nil, _ => .nil
  | .cons a v as vs h hs, hb => by
    simp only [AV.undL, Bool.and_eq_true] at hb
    exact .cons a v as vs (h.cut m hb.1) (hs.cut m hb.2)
end
end

def AObj.und (n : Nat) : AObj → Prop
  | .box cs _ => AV.undL n cs = true
  | .loop L => ∀ t v ow, L.env t = .val v ow → v.und n = true

def Bel (n : Nat) (σ : Sig) : Prop := ∀ id o, id < n → σ[id]? = some o → o.und n

def Keeps (b : Nat) (σ σ' : Sig) : Prop := σ.length ≤ σ'.length ∧ ∀ n, n ≤ b → Bel n σ → Bel n σ'

theorem Keeps.refl (b : Nat) (σ : Sig) : Keeps b σ σ := ⟨Nat.le_refl _, fun _ _ h => h⟩
theorem Keeps.trans {b : Nat} {σ σ1 σ2 : Sig} (h : Keeps b σ σ1) (k : Keeps b σ1 σ2) : Keeps b σ σ2 := ⟨Nat.le_trans h.1 k.1, fun n hn hb => k.2 n hn (h.2 n hn hb)⟩
theorem Keeps.less {b b' : Nat} {σ σ' : Sig} (h : Keeps b σ σ') (hb : b' ≤ b) : Keeps b' σ σ' := ⟨h.1, fun n hn => h.2 n (Nat.le_trans hn hb)⟩

theorem Keeps.add {b : Nat} {σ : Sig} (hb : b ≤ σ.length) (o : AObj) : Keeps b σ (σ ++ [o]) :=
  ⟨by simp, fun n hn h id o' hid ho => h id o' hid (by rwa [List.getElem?_append_left (by omega)] at ho)⟩

theorem Keeps.set {b : Nat} {σ : Sig} {id : Nat} {o : AObj} (h : ∀ n, n ≤ b → id < n → Bel n σ → o.und n) : Keeps b σ (σ.set id o) :=
  ⟨by simp, fun n hn hB id' o' hid ho => by
    by_cases hi : id' = id
    · subst hi
      rcases Nat.lt_or_ge id' σ.length with hl | hl
      · rw [List.getElem?_set_self hl] at ho
        simp at ho; subst ho
        exact h n hn hid hB
      · rw [List.getElem?_eq_none (by simpa using hl)] at ho; cases ho
    · rw [List.getElem?_set_ne (Ne.symm hi)] at ho
      exact hB id' o' hid ho⟩

structure OBel (O : Task → Option Res) : Prop where
  call : ∀ g args σ v σ', O (.call g args σ) = some (.ret v σ') → Keeps σ.length σ σ'
  yield : ∀ l args σ v σ', O (.yield l args σ) = some (.ret v σ') → Keeps σ.length σ σ'
  loop : ∀ E c ρ σ e ρ' σ', O (.loop E c ρ σ) = some (.code e ρ' σ') → E.base ≤ σ.length → Keeps E.base σ σ'

variable {G : Prg} {E : EE} {ρ ρ' : Env} {σ σ' : Sig} {ups : List (Nat × Slot)} {o : Oper} {O : Task → Option Res} {ops : Array Oper} {quiet : Bool}

theorem und_splice {n : Nat} {cs vs : List AV} {off : Nat} (h : AV.undL n cs = true) (hv : AV.undL n vs = true) : AV.undL n (splice cs off vs) = true := by
  rw [undL_mem] at *
  intro v hm
  unfold splice at hm
  simp only [List.mem_append] at hm
  rcases hm with (hm | hm) | hm
  · exact h v (List.mem_of_mem_take hm)
  · exact hv v hm
  · exact h v (List.mem_of_mem_drop hm)

theorem core_bel (hc : core G E o ρ σ = some (ups, σ')) (hb : E.base ≤ σ.length) : Keeps E.base σ σ' := by
  have pass : (∀ t, o.op ≠ .alloc t) → (∀ t x, o.op ≠ .box t x) → (∀ t x, o.op ≠ .load t x) → (∀ t x y, o.op ≠ .store t x y) → Keeps E.base σ σ' := by
    intro h1 h2 h3 h4
    have : core G E o ρ σ = (core1 G E o ρ).map fun u => (u, σ) := by
      unfold core
      cases ho : o.op <;> first | rfl | exact absurd ho (h1 _) | exact absurd ho (h2 _ _) | exact absurd ho (h3 _ _) | exact absurd ho (h4 _ _ _)
    rw [this, Option.map_eq_some_iff] at hc
    obtain ⟨u, hu, hc⟩ := hc
    simp only [Prod.mk.injEq] at hc
    rw [← hc.2]
    exact Keeps.refl _ _
  cases ho : o.op with
  | alloc t =>
    simp only [core, ho, Option.bind_eq_bind, Option.bind_eq_some_iff] at hc
    obtain ⟨cs, _, d, _, hc⟩ := hc
    split at hc
    · split at hc
      · simp at hc; rw [← hc.2]; exact Keeps.refl _ _
      · simp at hc
    · simp at hc; rw [← hc.2]; exact Keeps.add hb _
  | box t x =>
    simp only [core, ho, Option.bind_eq_bind, Option.bind_eq_some_iff] at hc
    obtain ⟨v, _, d, _, hc⟩ := hc
    split at hc
    · simp at hc
    · split at hc
      · split at hc
        · simp at hc; rw [← hc.2]; exact Keeps.refl _ _
        · simp at hc
      · split at hc
        · simp at hc; rw [← hc.2]; exact Keeps.refl _ _
        · simp at hc; rw [← hc.2]; exact Keeps.add hb _
  | load t x =>
    simp only [core, ho, Option.bind_eq_bind] at hc
    split at hc
    · simp at hc
    · rw [Option.bind_eq_some_iff] at hc
      obtain ⟨p, hp, hc⟩ := hc
      cases p with
      | im cs =>
        simp only [Option.bind_eq_some_iff] at hc
        obtain ⟨v, _, hc⟩ := hc
        simp at hc; rw [← hc.2]; exact Keeps.refl _ _
      | loc s off =>
        dsimp only at hc
        split at hc
        · simp only [Option.bind_eq_some_iff] at hc
          obtain ⟨v, _, d, _, hc⟩ := hc
          split at hc <;> (simp at hc; rw [← hc.2]; exact Keeps.refl _ _)
        · simp at hc
      | sh id off =>
        dsimp only at hc
        split at hc
        · rename_i cs ow hσ
          simp only [Option.bind_eq_some_iff] at hc
          obtain ⟨v, _, d, _, hc⟩ := hc
          split at hc
          · simp at hc; rw [← hc.2]
            exact Keeps.set fun n _ hid hB => show AV.undL n cs = true from hB id (.box cs ow) hid hσ
          · simp at hc; rw [← hc.2]; exact Keeps.refl _ _
        · simp at hc
  | store t x y =>
    simp only [core, ho, Option.bind_eq_bind] at hc
    rw [Option.bind_eq_some_iff] at hc
    obtain ⟨v, hv, hc⟩ := hc
    split at hc
    · simp at hc
    · rw [Option.bind_eq_some_iff] at hc
      obtain ⟨p, hp, hc⟩ := hc
      cases p with
      | im cs => simp at hc
      | loc s off =>
        dsimp only at hc
        split at hc
        · split at hc
          · simp at hc; rw [← hc.2]; exact Keeps.refl _ _
          · simp at hc
        · simp at hc
      | sh id off =>
        dsimp only at hc
        split at hc
        · rename_i cs ow hσ
          split at hc
          · rename_i hcond
            simp at hc; rw [← hc.2]
            refine Keeps.set fun n hn hid hB => ?_
            have hcs : AV.undL n cs = true := hB id _ hid hσ
            have hvf : v.flat = true := by
              rcases hcond.2 with h | h
              · omega
              · exact h
            refine und_splice hcs ?_
            rw [und_cells]; exact AV.flat_und n v hvf
          · simp at hc
        · simp at hc
  | _ => exact pass (by simp [ho]) (by simp [ho]) (by simp [ho]) (by simp [ho])

theorem retOf_some {r : Option Res} {v : AV} {s : Sig} (h : retOf r = some (v, s)) : r = some (.ret v s) := by
  unfold retOf at h
  split at h
  · simp at h; obtain ⟨rfl, rfl⟩ := h; rfl
  · simp at h

theorem stepOp_bel (hO : OBel O) (h : stepOp G E O ops quiet o ρ σ = some (ups, σ')) (hb : E.base ≤ σ.length) : Keeps E.base σ σ' := by
  unfold stepOp at h
  split at h
  · simp at h
  · simp at h; rw [← h.2]; exact Keeps.refl _ _
  · split at h
    · split at h
      · simp at h
      · split at h
        · simp at h; rw [← h.2]; exact Keeps.refl _ _
        · split at h
          · simp at h
          · split at h
            · rename_i hres
              simp at h; rw [← h.2]
              exact (hO.call _ _ _ _ _ (retOf_some hres)).less hb
            · simp at h
      · split at h
        · simp at h
        · split at h
          · rename_i hres
            simp at h; rw [← h.2]
            exact (hO.yield _ _ _ _ _ (retOf_some hres)).less hb
          · simp at h
    · split at h
      · rw [Option.map_eq_some_iff] at h
        obtain ⟨u, _, h⟩ := h
        simp only [Prod.mk.injEq] at h
        rw [← h.2]; exact Keeps.refl _ _
      · exact core_bel h hb

theorem aop_bel (hO : OBel O) (h : aop G E O ops quiet o ρ σ = some (ρ', σ')) (hb : E.base ≤ σ.length) : Keeps E.base σ σ' := by
  obtain ⟨ups, s, h1, _, _, rfl⟩ := aop_spec h
  split
  · rename_i hw
    rw [if_neg (by rw [hw]; simp)] at h1
    exact stepOp_bel hO h1 hb
  · exact Keeps.refl _ _

theorem aops_bel (hO : OBel O) : ∀ (l : List Oper) (ρ : Env) (σ : Sig), aops G E O ops quiet l ρ σ = some (ρ', σ') → E.base ≤ σ.length → Keeps E.base σ σ' := by
  intro l
  induction l with
  | nil => intro ρ σ h _; simp [aops] at h; rw [h.2]; exact Keeps.refl _ _
  | cons o l ih =>
    intro ρ σ h hb
    simp only [aops] at h
    split at h
    · simp at h
    · rename_i ρ1 σ1 h1
      have k := aop_bel hO h1 hb
      exact k.trans (ih _ _ h (Nat.le_trans hb k.1))

theorem exec_bel (hO : OBel O) : ∀ (c : Code) (ρ : Env) (σ : Sig) (e : XExit) (ρ' : Env) (σ' : Sig), execC G E O c ρ σ = some (e, ρ', σ') → E.base ≤ σ.length → Keeps E.base σ σ' := by
  intro c
  induction c with
  | skip => intro ρ σ e ρ' σ' h _; simp [execC] at h; rw [h.2.2]; exact Keeps.refl _ _
  | ret => intro ρ σ e ρ' σ' h _; simp [execC] at h; rw [h.2.2]; exact Keeps.refl _ _
  | exit id => intro ρ σ e ρ' σ' h _; simp [execC] at h; rw [h.2.2]; exact Keeps.refl _ _
  | seq x y ihx ihy =>
    intro ρ σ e ρ' σ' h hb
    simp only [execC] at h
    split at h
    · rename_i h1
      have k := ihx _ _ _ _ _ h1 hb
      exact k.trans (ihy _ _ _ _ _ h (Nat.le_trans hb k.1))
    · exact ihx _ _ _ _ _ h hb
  | cond c x y ihx ihy =>
    intro ρ σ e ρ' σ' h hb
    simp only [execC] at h
    split at h
    · exact ihx _ _ _ _ _ h hb
    · exact ihy _ _ _ _ _ h hb
    · simp at h
  | block id b ih =>
    intro ρ σ e ρ' σ' h hb
    simp only [execC] at h
    split at h
    · rename_i h1
      simp at h; rw [← h.2.2]
      exact ih _ _ _ _ _ h1 hb
    · exact ih _ _ _ _ _ h hb
  | loop b ih =>
    intro ρ σ e ρ' σ' h hb
    simp only [execC] at h
    split at h
    · rename_i h1
      have k := ih _ _ _ _ _ h1 hb
      split at h
      · rename_i h2
        simp at h; rw [← h.2.2]
        exact k.trans (hO.loop _ _ _ _ _ _ _ h2 (Nat.le_trans hb k.1))
      · simp at h
    · rename_i hx
      simp at h; rw [← h.2.2]
      exact ih _ _ _ _ _ hx hb
    · simp at h
  | region id ops draw =>
    intro ρ σ e ρ' σ' h hb
    simp only [execC] at h
    split at h
    · rename_i h1
      simp at h; rw [← h.2.2]
      unfold aregion at h1
      split at h1
      · split at h1
        · split at h1
          · rename_i hf
            have k := aops_bel hO _ _ _ hf hb
            split at h1
            · exact k.trans (aop_bel hO h1 (Nat.le_trans hb k.1))
            · simp at h1
          · simp at h1
        · simp at h1
      · exact aops_bel hO _ _ _ h1 hb
    · simp at h
  | rangeFunc f ps assign body _ _ =>
    intro ρ σ e ρ' σ' h hb
    simp only [execC] at h
    split at h
    · split at h
      · simp at h
      · split at h
        · simp at h
        · split at h
          · rename_i v σ2 hres
            have k1 := hO.call _ _ _ _ _ (retOf_some hres)
            have k := (Keeps.add (b := E.base) hb _).trans (k1.less (by simp; omega))
            have hset : ∀ (L : ALoop), Keeps E.base σ (σ2.set σ.length (.loop L)) := fun L => k.trans (Keeps.set fun n hn hid _ => by omega)
            split at h
            · split at h
              · simp at h
              · split at h
                · simp at h; rw [← h.2.2]; exact hset _
                · simp at h; rw [← h.2.2]; exact hset _
                · simp at h; rw [← h.2.2]; exact hset _
                · simp at h
            · simp at h
          · simp at h
    · simp at h
  | _ => intro ρ σ e ρ' σ' h; simp [execC] at h

theorem Keeps.take {b : Nat} {σ σ' : Sig} (h : Keeps b σ σ') (hl : σ.length = b) : Keeps b σ (σ'.take b) :=
  ⟨by have := h.1; simp; omega, fun n hn hB id o hid ho => h.2 n hn hB id o hid (by rwa [List.getElem?_take_of_lt (by omega)] at ho)⟩

theorem stepT_bel (hO : OBel O) : OBel (stepT G O) where
  call := by
    intro g args σ v σ' h
    simp only [stepT] at h
    split at h
    · rw [Option.map_eq_some_iff] at h
      obtain ⟨u, _, h⟩ := h
      simp at h; rw [← h.2]; exact Keeps.refl _ _
    split at h
    · split at h
      · split at h
        · split at h
          · simp at h
          · rename_i hne h1
            have k := exec_bel hO _ _ _ _ _ _ h1 (Nat.le_refl _)
            split at h
            · split at h
              · simp at h; rw [← h.2]; exact k
              · split at h
                · simp at h; rw [← h.2]; exact k.take rfl
                · simp at h
            · simp at h
          · simp at h
        · simp at h
      · simp at h
    · simp at h
  yield := by
    intro l args σ v σ' h
    simp only [stepT] at h
    split at h
    · rename_i L hL
      split at h
      · split at h
        · split at h
          · rename_i ρ1 σ1 h1
            have k1 := exec_bel hO _ _ _ _ _ _ h1 (Nat.le_refl _)
            split at h
            · rename_i L1 hL1
              split at h
              · split at h
                · rename_i e ρ2 σ2 h2
                  have kset : ∀ (s : Sig) (L L' : ALoop), s[l]? = some (.loop L) → L'.env = L.env → Keeps σ.length s (s.set l (.loop L')) := fun s L L' hs he => Keeps.set fun n hn hid hB => by
                    have := hB l _ hid hs
                    intro t v ow hv
                    rw [he] at hv
                    exact this t v ow hv
                  have k2 := kset σ1 L1 { L1 with state := .busy } hL1 rfl
                  have k3 := exec_bel hO _ _ _ _ _ _ h2 (by have := k1.1; simpa using this)
                  have k := (k1.trans k2).trans k3
                  split at h
                  · rename_i L2 hL2
                    split at h
                    · simp at h; rw [← h.2]; exact k.trans (kset _ L2 _ hL2 rfl)
                    · simp at h; rw [← h.2]; exact k.trans (kset _ L2 _ hL2 rfl)
                    · simp at h; rw [← h.2]; exact k.trans (kset _ L2 _ hL2 rfl)
                  · simp at h
                · simp at h
              · simp at h
            · simp at h
          · simp at h
        · simp at h
      · simp at h
    · simp at h
  loop := by
    intro E c ρ σ e ρ' σ' h hb
    simp only [stepT] at h
    split at h
    · split at h
      · rename_i h1
        simp at h
        obtain ⟨rfl, rfl, rfl⟩ := h
        exact exec_bel hO _ _ _ _ _ _ h1 hb
      · simp at h
    · simp at h

theorem F_bel (G : Prg) : ∀ n, OBel (F G n)
  | 0 => ⟨fun _ _ _ _ _ h => by simp [F] at h, fun _ _ _ _ _ h => by simp [F] at h, fun _ _ _ _ _ _ _ h => by simp [F] at h⟩
  | n + 1 => stepT_bel (F_bel G n)

end Go.AI
