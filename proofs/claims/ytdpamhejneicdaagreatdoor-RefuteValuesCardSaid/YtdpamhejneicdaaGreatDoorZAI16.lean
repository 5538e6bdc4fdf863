/- The abstract machine: regions, in their order and in whatever order. -/
import Derived.Test.YtdpamhejneicdaaGreatDoorZAI15
namespace Go.AI
set_option linter.unusedVariables false
set_option linter.unusedSimpArgs false
open Go

variable {G : Prg} {an : Ann} {E : EE} {B0 : Nat → Prop} {st st0 : St} {ρ ρm ρ' : Env} {σ σ' : Sig} {a : Act} {o : Oper} {tmps : Array Value} {O : Task → Option Res} {ops : Array Oper} {quiet : Bool}

def aopsI (G : Prg) (E : EE) (O : Task → Option Res) (ops : Array Oper) (quiet : Bool) : List Nat → Env → Sig → Option (Env × Sig)
  | [], ρ, σ => some (ρ, σ)
  | i :: r, ρ, σ => match ops[i]? with
    | none => aopsI G E O ops quiet r ρ σ
    | some o => match aop G E O ops quiet o ρ σ with
      | none => none
      | some (ρ', σ') => aopsI G E O ops quiet r ρ' σ'

theorem aops_range' : ∀ (m k : Nat) (ρ : Env) (σ : Sig), k + m = ops.size → aopsI G E O ops quiet (List.range' k m) ρ σ = aops G E O ops quiet (ops.toList.drop k) ρ σ := by
  intro m
  induction m with
  | zero =>
    intro k ρ σ h
    rw [List.drop_of_length_le (by simp; omega)]
    rfl
  | succ m ih =>
    intro k ρ σ h
    have hk : k < ops.toList.length := by simp; omega
    rw [List.range'_succ, List.drop_eq_getElem_cons hk]
    have ho : ops[k]? = some ops.toList[k] := by simp
    simp only [aopsI, ho, aops]
    cases aop G E O ops quiet ops.toList[k] ρ σ with
    | none => rfl
    | some x => exact ih (k + 1) x.1 x.2 (by omega)

theorem aops_range : aopsI G E O ops quiet (List.range ops.size) ρ σ = aops G E O ops quiet ops.toList ρ σ := by
  rw [List.range_eq_range']
  have := aops_range' (G := G) (E := E) (O := O) (ops := ops) (quiet := quiet) ops.size 0 ρ σ (by simp)
  simpa using this

theorem aopsI_cons {i : Nat} {R : List Nat} {x : Env × Sig} (h : aopsI G E O ops quiet (i :: R) ρ σ = some x) (ho : ops[i]? = some o) :
    ∃ ρ1 σ1, aop G E O ops quiet o ρ σ = some (ρ1, σ1) ∧ aopsI G E O ops quiet R ρ1 σ1 = some x := by
  simp only [aopsI, ho] at h
  split at h
  · simp at h
  · rename_i ρ1 σ1 h1
    exact ⟨ρ1, σ1, h1, h⟩

theorem aopsI_mk {i : Nat} {R : List Nat} {ρ1 : Env} {σ1 : Sig} (ho : ops[i]? = some o) (h : aop G E O ops quiet o ρ σ = some (ρ1, σ1)) : aopsI G E O ops quiet (i :: R) ρ σ = aopsI G E O ops quiet R ρ1 σ1 := by
  simp only [aopsI, ho, h]

/-- In the order of the list. -/
theorem ops_sound (hP : PrgOK G) {k : Nat} (hO : OrSound G k O) (r : Option Nat) (n : Nat) {Q : Exit → Act → World → Prop} {ds : List Deferred} :
    ∀ (R : List Nat) (ρ : Env) (σ : Sig) (st : St) (a : Act), aopsI G E O ops quiet R ρ σ = some (ρ', σ') → OK G E.an B0 st ρ σ a.tmps → Step B0 st0 st → a.defers = ds →
      (∀ a' st', OK G E.an B0 st' ρ' σ' a'.tmps → Step B0 st0 st' → a'.defers = ds → Q .normal a' st'.w) → wpOpsIn (fen r) n G.P ops Q R a st.w := by
  intro R
  induction R with
  | nil =>
    intro ρ σ st a h hok hst hd hQ
    simp only [aopsI, Option.some.injEq, Prod.mk.injEq] at h
    obtain ⟨rfl, rfl⟩ := h
    exact hQ a st hok hst hd
  | cons i R ih =>
    intro ρ σ st a h hok hst hd hQ
    rw [wpOpsIn_cons]
    cases ho : ops[i]? with
    | none =>
      simp only [aopsI, ho] at h
      unfold wpOpIn
      simp only [ho]
      exact ih ρ σ st a h hok hst hd hQ
    | some o =>
      obtain ⟨ρ1, σ1, h1, h2⟩ := aopsI_cons h ho
      exact op_sound hP hO r n ho hok h1 fun a' st' hok' hst' hd' => ih ρ1 σ1 st' a' h2 hok' (hst.trans hst') (hd'.trans hd) hQ

/-! ### Whatever order -/

theorem move_front {i : Nat} : ∀ (R : List Nat) (ρ : Env) (σ : Sig) (x : Env × Sig), R.Pairwise (· < ·) → i ∈ R →
    (∀ p ∈ R, p < i → ∀ op oi, ops[p]? = some op → ops[i]? = some oi → indep G E.an quiet ops op oi = true) → aopsI G E O ops quiet R ρ σ = some x → aopsI G E O ops quiet (i :: R.erase i) ρ σ = some x := by
  intro R
  induction R with
  | nil => intro _ _ _ _ hi; cases hi
  | cons p R ih =>
    intro ρ σ x hp hi hin h
    by_cases hpi : p = i
    · subst hpi; simpa using h
    · have hiR : i ∈ R := by
        rcases List.mem_cons.1 hi with h' | h'
        · exact absurd h'.symm hpi
        · exact h'
      obtain ⟨hlt, hpR⟩ := List.pairwise_cons.1 hp
      have hplt := hlt i hiR
      have he : (p :: R).erase i = p :: R.erase i := List.erase_cons_tail (by simpa using hpi)
      rw [he]
      have hin' : ∀ q ∈ R, q < i → ∀ op oi, ops[q]? = some op → ops[i]? = some oi → indep G E.an quiet ops op oi = true := fun q hq => hin q (List.mem_cons_of_mem _ hq)
      cases hop : ops[p]? with
      | none =>
        have e1 : ∀ R ρ σ, aopsI G E O ops quiet (p :: R) ρ σ = aopsI G E O ops quiet R ρ σ := fun R ρ σ => by simp only [aopsI, hop]
        rw [e1] at h
        have h3 := ih ρ σ x hpR hiR hin' h
        cases hoi : ops[i]? with
        | none =>
          simp only [aopsI, hoi, hop] at h3 ⊢
          exact h3
        | some oi =>
          obtain ⟨ρ1, σ1, k1, k2⟩ := aopsI_cons h3 hoi
          rw [aopsI_mk hoi k1, e1]; exact k2
      | some op =>
        obtain ⟨ρ1, σ1, h1, h2⟩ := aopsI_cons h hop
        have h3 := ih ρ1 σ1 x hpR hiR hin' h2
        cases hoi : ops[i]? with
        | none =>
          simp only [aopsI, hoi] at h3 ⊢
          simp only [hop, h1]
          exact h3
        | some oi =>
          obtain ⟨ρ2, σ2, h4, h5⟩ := aopsI_cons h3 hoi
          obtain ⟨ρ3, σ3, k1, k2⟩ := aop_swap (hin p (by simp) hplt op oi hop hoi) h1 h4
          rw [aopsI_mk hoi k1, aopsI_mk hop k2]
          exact h5

def Listed (listed : Array Bool) (j : Nat) : Prop := listed.getD j false = true

theorem bef_listed {listed : Array Bool} (hd : ∀ j, Listed listed j → ∀ o, ops[j]? = some o → ∀ e ∈ o.after.toList, Region.binds .any e = true → Listed listed e.on) {p : Nat} :
    ∀ (f j : Nat) (o : Oper), ops[j]? = some o → (∀ e ∈ o.after.toList, Region.binds .any e = true → Listed listed e.on) → bef ops f p j = true → Listed listed p := by
  intro f
  induction f with
  | zero => intro j o _ _ h; simp [bef] at h
  | succ f ih =>
    intro j o ho hl h
    simp only [bef, ho, List.any_eq_true, Bool.and_eq_true, Bool.or_eq_true, beq_iff_eq] at h
    obtain ⟨e, he, hb, h | h⟩ := h
    · rw [← h]; exact hl e he hb
    · have hle := hl e he hb
      cases hoe : ops[e.on]? with
      | none =>
        cases f with
        | zero => simp [bef] at h
        | succ f => simp [bef, hoe] at h
      | some oe => exact ih e.on oe hoe (fun e' he' hb' => hd e.on hle oe hoe e' he' hb') h

theorem any_sound (hP : PrgOK G) {k : Nat} (hO : OrSound G k O) (r : Option Nat) (n : Nat) {Q : Exit → Act → World → Prop} {ds : List Deferred} (hreg : regionOK G E.an quiet ops = true) :
    ∀ (fuel : Nat) (R : List Nat) (listed : Array Bool) (ρ : Env) (σ : Sig) (st : St) (a : Act), R.length = fuel → R.Pairwise (· < ·) → listed.size = ops.size → (∀ i, i ∈ R ↔ i < ops.size ∧ listed.getD i true = false) →
      (∀ j, Listed listed j → ∀ o, ops[j]? = some o → ∀ e ∈ o.after.toList, Region.binds .any e = true → Listed listed e.on) →
      aopsI G E O ops quiet R ρ σ = some (ρ', σ') → OK G E.an B0 st ρ σ a.tmps → Step B0 st0 st → a.defers = ds →
      (∀ a' st', OK G E.an B0 st' ρ' σ' a'.tmps → Step B0 st0 st' → a'.defers = ds → Q .normal a' st'.w) → wpAnyIn (fen r) n G.P .any ops Q fuel listed a st.w := by
  have hchk : ∀ j o, ops[j]? = some o → (∀ e ∈ o.after.toList, Region.binds .any e = true → e.on < j) ∧ ∀ i, i < j → ∀ p, ops[i]? = some p → bef ops 8 i j = true ∨ indep G E.an quiet ops p o = true := by
    intro j o ho
    have hj : j < ops.size := (Array.getElem?_eq_some_iff.1 ho).1
    unfold regionOK at hreg
    rw [List.all_eq_true] at hreg
    have := hreg j (List.mem_range.2 hj)
    simp only [ho, Bool.and_eq_true, List.all_eq_true, Bool.or_eq_true, Bool.not_eq_true', decide_eq_true_eq, List.mem_range] at this
    refine ⟨fun e he hb => ?_, fun i hi p hp => ?_⟩
    · rcases this.1 e he with h | h
      · rw [hb] at h; cases h
      · exact h
    · have := this.2 i hi
      rw [hp] at this
      simpa using this
  have hget : ∀ (listed : Array Bool) (j : Nat), listed.size = ops.size → j < ops.size → (listed.getD j true = false ∨ Listed listed j) := by
    intro listed j hs hj
    unfold Listed
    rw [Array.getD_eq_getD_getElem?, Array.getD_eq_getD_getElem?, Array.getElem?_eq_getElem (by omega)]
    simp
  intro fuel
  induction fuel with
  | zero =>
    intro R listed ρ σ st a hlen hp hs hR hd h hok hst hds hQ
    have hRn : R = [] := List.eq_nil_of_length_eq_zero hlen
    subst hRn
    refine ⟨?_, ?_⟩
    · cases hr : Region.ready .any ops listed with
      | nil => rfl
      | cons x xs =>
        have hx : x ∈ Region.ready .any ops listed := by rw [hr]; simp
        obtain ⟨k1, o, ho, _⟩ := mem_ready.1 hx
        have := (hR x).2 ⟨(Array.getElem?_eq_some_iff.1 ho).1, k1⟩
        cases this
    · simp only [aopsI, Option.some.injEq, Prod.mk.injEq] at h
      obtain ⟨rfl, rfl⟩ := h
      exact hQ a st hok hst hds
  | succ fuel ih =>
    intro R listed ρ σ st a hlen hp hs hR hd h hok hst hds hQ
    refine ⟨fun hnil => ?_, fun i hi => ?_⟩
    · exfalso
      cases R with
      | nil => simp at hlen
      | cons i R =>
        obtain ⟨k1, k2⟩ := (hR i).1 (by simp)
        have hoi : ops[i]? = some ops[i] := Array.getElem?_eq_getElem k1
        have : i ∈ Region.ready .any ops listed := by
          refine mem_ready.2 ⟨k2, ops[i], hoi, fun e he hb => ?_⟩
          have hlt := (hchk i _ hoi).1 e (by simpa using he) hb
          rcases hget listed e.on hs (by omega) with hq | hq
          · have := (hR e.on).2 ⟨by omega, hq⟩
            rcases List.mem_cons.1 this with h' | h'
            · omega
            · have := (List.pairwise_cons.1 hp).1 _ h'
              omega
          · exact hq
        rw [hnil] at this
        cases this
    · obtain ⟨k1, o, ho, k3⟩ := mem_ready.1 hi
      have hisz := (Array.getElem?_eq_some_iff.1 ho).1
      have hiR := (hR i).2 ⟨hisz, k1⟩
      have hal : ∀ e ∈ o.after.toList, Region.binds .any e = true → Listed listed e.on := fun e he hb => k3 e (by simpa using he) hb
      have hfront := move_front (i := i) R ρ σ _ hp hiR (fun p hpR hpi op oi hop hoi => by
        rw [ho] at hoi; cases hoi
        rcases (hchk i o ho).2 p hpi op hop with hb | hb
        · have hl := bef_listed hd 8 i o ho hal hb
          have := ((hR p).1 hpR).2
          exfalso
          unfold Listed at hl
          have hps := ((hR p).1 hpR).1
          rw [Array.getD_eq_getD_getElem?, Array.getElem?_eq_getElem (by omega)] at hl this
          simp at hl this
          rw [hl] at this; cases this
        · exact hb) h
      obtain ⟨ρ1, σ1, h1, h2⟩ := aopsI_cons hfront ho
      have hnd : R.Nodup := hp.imp fun h => Nat.ne_of_lt h
      refine op_sound hP hO r n ho hok h1 fun a' st' hok' hst' hd' => ?_
      refine ih (R.erase i) (listed.setIfInBounds i true) ρ1 σ1 st' a' (by rw [List.length_erase_of_mem hiR]; omega) (hp.sublist List.erase_sublist) (by simpa using hs) (fun j => ?_) (fun j hj oj hoj e he hb => ?_) h2 hok' (hst.trans hst') (hd'.trans hds) hQ
      · rw [hnd.mem_erase_iff, hR j]
        by_cases hji : j = i
        · subst hji
          simp [Array.getD_eq_getD_getElem?, Array.getElem?_setIfInBounds_self_of_lt (show j < listed.size by omega)]
        · simp only [Array.getD_eq_getD_getElem?, Array.getElem?_setIfInBounds_ne (Ne.symm hji)]
          simp [hji]
      · have hset : ∀ k, Listed listed k → Listed (listed.setIfInBounds i true) k := by
          intro k hk
          unfold Listed at *
          by_cases hki : k = i
          · subst hki
            simp [Array.getD_eq_getD_getElem?, Array.getElem?_setIfInBounds_self_of_lt (show k < listed.size by omega)]
          · rw [Array.getD_eq_getD_getElem?] at hk ⊢
            rw [Array.getElem?_setIfInBounds_ne (Ne.symm hki)]; exact hk
        by_cases hji : j = i
        · subst hji
          rw [ho] at hoj; cases hoj
          exact hset _ (hal e he hb)
        · refine hset _ (hd j ?_ oj hoj e he hb)
          unfold Listed at *
          rw [Array.getD_eq_getD_getElem?] at hj ⊢
          rw [Array.getElem?_setIfInBounds_ne (Ne.symm hji)] at hj; exact hj

/-! ### What a region leaves -/

theorem forget_get (vars : List Nat) (ρ : Env) (t : Nat) : forget vars ρ t = if t ∈ vars then clean (ρ t) else .none := by
  unfold forget
  induction vars with
  | nil => rfl
  | cons v vars ih =>
    simp only [List.map_cons, mkEnv]
    by_cases h : t = v
    · subst h; simp
    · rw [if_neg h, ih]; simp [h]

theorem OK.forget (h : OK G an B0 st ρ σ tmps) (vars : List Nat) : OK G an B0 st (AI.forget vars ρ) σ tmps := by
  have hget : ∀ t, AI.forget vars ρ t = .none ∨ AI.forget vars ρ t = ρ t := by
    intro t
    rw [forget_get]
    split
    · cases hρ : ρ t <;> simp [clean]
    · exact .inl rfl
  have hnl : ∀ t s off, AI.forget vars ρ t ≠ .lptr s off := by
    intro t s off
    rw [forget_get]
    split
    · cases hρ : ρ t <;> simp [clean]
    · simp
  have hnr : ∀ t s n, AI.forget vars ρ t ≠ .larr s n := by
    intro t s n
    rw [forget_get]
    split
    · cases hρ : ρ t <;> simp [clean]
    · simp
  have hhas : ∀ p b, Has st.L (AI.forget vars ρ) p b → Has st.L ρ p b := by
    intro p b hp
    cases p with
    | box t =>
      rcases hget t with e | e
      · simp [Has, e, Slot.isLoc] at hp
      · simpa [Has, e] using hp
    | own t i =>
      rcases hget t with e | e
      · simp [Has, e, Slot.ows] at hp
      · simpa [Has, e] using hp
  refine ⟨h.size, fun t => ?_, fun t => ?_, fun t s off ht => absurd ht (hnl t s off), fun p b hp => h.priv p b (hhas p b hp), fun p q b hp hq => h.inj p q b (hhas p b hp) (hhas q b hq), h.base, h.out, h.sr, fun t s n ht => absurd ht (hnr t s n)⟩
  · rcases hget t with e | e
    · rw [e]; trivial
    · rw [e]; exact h.slot t
  · rcases hget t with e | e
    · rw [e]; intro h'; exact absurd rfl h'
    · rw [e]; exact h.fits t

end Go.AI
