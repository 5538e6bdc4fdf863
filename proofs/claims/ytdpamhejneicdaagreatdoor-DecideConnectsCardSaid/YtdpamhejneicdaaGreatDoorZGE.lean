/- The abstract machine: code. -/
import Derived.Test.YtdpamhejneicdaaGreatDoorZGD
import Derived.RangeFuncNested
namespace Go.AI
set_option linter.unusedVariables false
set_option linter.unusedSimpArgs false
open Go

variable {G : Prg} {an : Ann} {E : EE} {B0 : Nat → Prop} {st st0 : St} {ρ ρm ρ' : Env} {σ σ' : Sig} {a : Act} {o : Oper} {tmps : Array Value} {O : Task → Option Res} {ops : Array Oper} {quiet : Bool}

/-! ### Loops -/

theorem then_mono {K K' : Act → World → Prop} {Q Q' : Exit → Act → World → Prop} (hK : ∀ a w, K a w → K' a w) (hQ : ∀ e a w, Q e a w → Q' e a w) (e : Exit) (a : Act) (w : World) (h : Exit.then K Q e a w) : Exit.then K' Q' e a w := by
  cases e <;> first | exact hK _ _ h | exact hQ _ _ _ h

theorem Wn.mono {F : Fence} {n : Nat} {P : Program} {b : Code} {Q Q' : Exit → Act → World → Prop} (hQ : ∀ e a w, Q e a w → Q' e a w) : ∀ (m : Nat) (a : Act) (w : World), Wn F n P b Q m a w → Wn F n P b Q' m a w
  | 0, _, _, h => h
  | m + 1, a, w, h => wpIn_mono h (then_mono (Wn.mono hQ m) hQ)

theorem least {p : Nat → Prop} (h : ∃ m, p m) : ∃ m, p m ∧ ∀ k, p k → m ≤ k := by
  obtain ⟨m, hm⟩ := h
  induction m using Nat.strongRecOn with
  | _ m ih =>
    by_cases hk : ∃ k, p k ∧ k < m
    · obtain ⟨k, h1, h2⟩ := hk
      exact ih k h2 h1
    · exact ⟨m, hm, fun k h => Nat.le_of_not_lt fun hlt => hk ⟨k, h, hlt⟩⟩

open Classical in
theorem loop_of_Wn {F : Fence} {n : Nat} {P : Program} {b : Code} {Q : Exit → Act → World → Prop} {m : Nat} {a : Act} {w : World} (h : Wn F n P b Q m a w) : (Code.loop b).wpIn F n P Q a w := by
  refine wpIn_loop (fun a w => ∃ m, Wn F n P b Q m a w) (fun a w => if h : ∃ m, Wn F n P b Q m a w then (least h).choose else 0) ⟨m, h⟩ fun a w hI => ?_
  obtain ⟨h1, h2⟩ := (least hI).choose_spec
  rw [dif_pos hI]
  generalize (least hI).choose = m at h1 h2
  cases m with
  | zero => exact h1.elim
  | succ m =>
    refine wpIn_mono h1 (then_mono (fun a' w' h' => ?_) fun _ _ _ h => h)
    have hI' : ∃ m, Wn F n P b Q m a' w' := ⟨m, h'⟩
    refine ⟨hI', ?_⟩
    rw [dif_pos hI']
    have := (least hI').choose_spec.2 m h'
    omega

/-! ### What code leaves -/

theorem Marks.step {N : Nat} {B B' : Nat → Prop} {st st' : St} {ds : List Deferred} (h : Marks N B st ds) (hB : ∀ b, B b → B' b) (hst : Step B st st') : Marks N B' st' ds := by
  obtain ⟨ms, h1, h2, h3⟩ := h
  exact ⟨ms, h1, h2, fun b hb => ⟨(h3 b hb).1, hB b (h3 b hb).2.1, by rw [(hst.blk b (h3 b hb).2.1).1]; exact (h3 b hb).2.2⟩⟩

theorem CodePost.from {N : Nat} {B B' : Nat → Prop} {st st' : St} {e : XExit} (hB : ∀ b, B b → B' b) (hst : Step B st st') {ex : Exit} {a : Act} {w : World} (h : CodePost G E N B' st' e ρ' σ' ex a w) : CodePost G E N B st e ρ' σ' ex a w := by
  obtain ⟨h1, B'', st'', h2, h3, h4, h5, h6⟩ := h
  exact ⟨h1, B'', st'', h2, fun b hb => h3 b (hB b hb), h4, hst.trans (h5.weaken hB), h6⟩

theorem CodePost.here {N : Nat} {B : Nat → Prop} {st : St} {e : XExit} (h : OK G E.an B st ρ σ a.tmps) (hm : Marks N B st a.defers) : CodePost G E N B st e ρ σ e.to a st.w :=
  ⟨rfl, B, st, rfl, fun _ h => h, h, Step.refl _ _, hm⟩

theorem loop_sound {k : Nat} (hO : OrSound G k O) {b : Code} {e : XExit} (ih : ∀ ρ σ e ρ' σ', execC G E O b ρ σ = some (e, ρ', σ') → CodeOK G E b ρ σ e ρ' σ') (h : execC G E O (.loop b) ρ σ = some (e, ρ', σ')) :
    LoopW G E b (k + 1) ρ σ e ρ' σ' := by
  intro hreg hann st a N B n r hr hN hok hm
  have hregb : regionsOK G E.an b = true := by simpa [regionsOK] using hreg
  simp only [execC] at h
  split at h
  · rename_i ρ1 σ1 hb
    split at h
    · rename_i e2 ρ2 σ2 hl
      simp only [Option.some.injEq, Prod.mk.injEq] at h
      obtain ⟨rfl, rfl, rfl⟩ := h
      refine wpIn_mono (ih _ _ _ _ _ hb hregb hann st a N B n r hr hN (hok.forget _) hm) fun ex a' w' hp => ?_
      obtain ⟨rfl, B', st', rfl, hB, hok', hst, hm'⟩ := hp
      show Wn _ _ _ _ _ k a' st'.w
      refine Wn.mono (fun ex a'' w'' hp => ?_) k a' st'.w (hO.loop _ _ _ _ _ _ _ hl hreg hann st' a' N B' n r (hr.step hst) (Nat.le_trans hN hst.size) (hok'.forget _) hm')
      obtain ⟨h1, B'', st'', h2, h3, h4, h5, h6⟩ := hp
      exact CodePost.from hB hst ⟨h1, B'', st'', h2, h3, h4.forget _, h5, h6⟩
    · simp at h
  · rename_i e0 ρ0 σ0 hne hx
    simp only [Option.some.injEq, Prod.mk.injEq] at h
    obtain ⟨rfl, rfl, rfl⟩ := h
    have hne' : e0 ≠ .normal := by
      rintro rfl
      exact hne rfl
    refine wpIn_mono (ih _ _ _ _ _ hx hregb hann st a N B n r hr hN (hok.forget _) hm) fun ex a' w' hp => ?_
    obtain ⟨rfl, B', st', h2, h3, h4, h5, h6⟩ := hp
    have : CodePost G E N B st e0 (AI.forget (E.an.exitOf b e0) ρ0) σ0 e0.to a' w' := ⟨rfl, B', st', h2, h3, h4.forget _, h5, h6⟩
    cases e0 with
    | normal => exact absurd rfl hne'
    | exit id => exact this
    | ret => exact this
  · simp at h

/-! ### A range over a function -/

theorem OK.grab (h : OK G an B0 st ρ σ tmps) {x : Nat} (h1 : ∀ p b, Has st.L ρ p b → b ≠ x) (h2 : x < st.w.heap.size) (h3 : ¬ st.S x) : OK G an (fun b => B0 b ∨ b = x) st ρ σ tmps :=
  ⟨h.size, h.slot, h.fits, h.lptr, fun p b hp => ⟨fun hb => by
    rcases hb with hb | hb
    · exact (h.priv p b hp).1 hb
    · exact h1 p b hp hb, (h.priv p b hp).2⟩, h.inj, fun b hb => by
    rcases hb with hb | rfl
    · exact h.base b hb
    · exact h2, fun b hs hb => by
    rcases hb with hb | rfl
    · exact h.out b hs hb
    · exact h3 hs, h.sr, h.larr⟩

theorem SR.setLoop {w w' : World} {ext : Nat → Nat} {ι : List Nat} {S : Nat → Prop} {SL : Nat → Nat → Option Nat} (h : SR G w ext ι S SL σ) {id b : Nat} {L L' : ALoop} {r : Loop}
    (hid : σ[id]? = some (.loop L)) (hb : ι[id]? = some b) (hh : w.heap[b]? = some (.loop r)) (ht : Turn w w' b) (hnew : ∀ ι', Grow w ext ι w' ext ι' → LoopOK w' ext ι' G L' b) :
    Grow w ext ι w' ext ι ∧ SR G w' ext ι S SL (σ.set id (.loop L')) := by
  have hg0 : Grow w ext ι w' ext ι := ht.grow (fun _ _ => rfl) (Nat.le_refl _) fun oo v ho hc => by simp [World.cell?, hh] at hc
  have hidlt := (List.getElem?_eq_some_iff.1 hid).1
  have hget : ∀ (id' : Nat) (o' : AObj), (σ.set id (.loop L'))[id']? = some o' → (id' ≠ id ∧ σ[id']? = some o') ∨ (id' = id ∧ o' = .loop L') := by
    intro id' o' ho'
    by_cases hi : id' = id
    · subst hi; rw [List.getElem?_set_self hidlt] at ho'; simp at ho'; exact .inr ⟨rfl, ho'.symm⟩
    · rw [List.getElem?_set_ne (Ne.symm hi)] at ho'; exact .inl ⟨hi, ho'⟩
  have hne : ∀ id' x, id' ≠ id → ι[id']? = some x → x ≠ b := by
    intro id' x hi hx hxb
    subst hxb
    exact hi ((List.getElem?_inj (List.getElem?_eq_some_iff.1 hx).1 h.nodup).1 (hx.trans hb.symm))
  refine ⟨hg0, ⟨by simp [h.len], h.nodup, fun id' o' x ho' hx => ?_, h.inS, fun id' o' i x ho' hi hx => ?_, fun id1 o1 i1 id2 o2 i2 x h1 hi1 hx1 h2 hi2 hx2 => ?_, fun x hx => by rw [ht.size]; exact h.small x hx, fun x hx => h.fresh x (by rw [← ht.size]; exact hx), fun g aa ha => (h.globals g aa ha).mono hg0⟩⟩
  · rcases hget id' o' ho' with ⟨hi, ho'⟩ | ⟨rfl, rfl⟩
    · have hxb := hne id' x hi hx
      exact (h.obj id' o' x ho' hx).keep hg0 ⟨ht.blk x hxb, rfl⟩ fun i hi' c hc => by
        have := (h.ownS id' o' i c ho' hi' hc).2
        exact ⟨ht.blk c (by rintro rfl; exact this (List.mem_of_getElem? hb)), rfl⟩
    · have hxb : x = b := by rw [hb] at hx; simpa using hx.symm
      subst hxb
      exact hnew ι hg0
  · rcases hget id' o' ho' with ⟨hj, ho'⟩ | ⟨rfl, rfl⟩
    · exact h.ownS id' o' i x ho' hi hx
    · simp [AObj.ows] at hi
  · rcases hget id1 o1 h1 with ⟨hj1, q1⟩ | ⟨h1e, rfl⟩
    · rcases hget id2 o2 h2 with ⟨hj2, q2⟩ | ⟨h2e, rfl⟩
      · exact h.inj id1 o1 i1 id2 o2 i2 x q1 hi1 hx1 q2 hi2 hx2
      · simp [AObj.ows] at hi2
    · simp [AObj.ows] at hi1

theorem OK.setLoop {w' : World} {id b : Nat} {L L' : ALoop} {r : Loop} (h : OK G an B0 st ρ σ tmps)
    (hid : σ[id]? = some (.loop L)) (hb : st.ι[id]? = some b) (hh : st.w.heap[b]? = some (.loop r)) (ht : Turn st.w w' b) (hnew : ∀ ι', Grow st.w st.ext st.ι w' st.ext ι' → LoopOK w' st.ext ι' G L' b) :
    OK G an B0 { st with w := w' } ρ (σ.set id (.loop L')) tmps ∧ Step B0 st { st with w := w' } := by
  obtain ⟨hg0, hsr⟩ := h.sr.setLoop hid hb hh ht hnew
  have hSb : st.S b := h.sr.inS b (List.mem_of_getElem? hb)
  refine ⟨⟨h.size, fun t => ?_, h.fits, h.lptr, fun p x hp => ?_, h.inj, fun x hx => by simpa [ht.size] using h.base x hx, h.out, hsr, h.larr⟩, ⟨hg0, by simp [ht.size], fun x hx => ⟨ht.blk x ?_, rfl⟩, ht.os, ht.tape, ht.output⟩⟩
  · exact h.slotTurn hg0 ht (fun _ _ => rfl) fun p _ hp => (h.priv p b hp).2.2 hSb
  · have := h.priv p x hp
    exact ⟨this.1, by simpa [ht.size] using this.2.1, this.2.2⟩
  · rintro rfl; exact h.out _ hSb hx

theorem Turn.putObj (w : World) (b : Nat) (o : Obj) : Turn w (w.putObj b o) b := ⟨by simp, fun _ h => World.putObj_heap_other h, rfl, rfl, rfl⟩

theorem LoopOK.set {w : World} {ext : Nat → Nat} {ι : List Nat} {L : ALoop} {b : Nat} (h : LoopOK w ext ι G L b) (s : LoopState) (p : Option Code) :
    ∃ r, w.heap[b]? = some (.loop r) ∧ r.state = L.state ∧ r.pending = L.pending ∧ ∀ ι', Grow w ext ι (w.putObj b (.loop { r with state := s, pending := p })) ext ι' →
      LoopOK (w.putObj b (.loop { r with state := s, pending := p })) ext ι' G { L with state := s, pending := p } b := by
  obtain ⟨tmps, bd, an, fn, h1, h2, h3, h4, h4', h6, h5⟩ := h.ex
  refine ⟨_, h1, rfl, rfl, fun ι' hg => ⟨tmps, bd, an, fn, ?_, h2, h3, h4, h4', h6, fun t => ⟨(h5 t).1, (h5 t).2.1, (h5 t).2.2.1, (h5 t).2.2.2.1, fun v ow hv => ((h5 t).2.2.2.2 v ow hv).mono hg⟩⟩⟩
  exact World.putObj_heap_same (Array.getElem?_eq_some_iff.1 h1).1

theorem round_slot {w' : World} {ext' : Nat → Nat} {ι' : List Nat} (h : OK G an B0 st ρ σ tmps) (hg : Grow st.w st.ext st.ι w' ext' ι') (t : Nat) :
    (roundEnv ρ t).ows = [] ∧ (roundEnv ρ t).isLoc = false ∧ (∀ s off, roundEnv ρ t ≠ .lptr s off ∧ roundEnv ρ t ≠ .larr s off) ∧ (roundEnv ρ t ≠ .none → fitsSlot an t (roundEnv ρ t) = true) ∧ ∀ v ow, roundEnv ρ t = .val v ow → Rep w' ext' ι' v (tmps.getD t undef) := by
  cases hρ : ρ t with
  | val v ow =>
    have e : roundEnv ρ t = .val v [] := by unfold roundEnv; rw [hρ]
    have hsl := h.slot t
    have hfit := h.fits t (by rw [hρ]; simp)
    rw [hρ] at hsl hfit
    rw [e]
    refine ⟨rfl, rfl, by simp, fun _ => hfit, fun v' ow' hv => ?_⟩
    cases hv
    exact hsl.1.mono hg
  | none =>
    have e : roundEnv ρ t = .none := by unfold roundEnv; rw [hρ]
    rw [e]; exact ⟨rfl, rfl, by simp, by simp, by simp⟩
  | loc cs ow =>
    have e : roundEnv ρ t = .none := by unfold roundEnv; rw [hρ]
    rw [e]; exact ⟨rfl, rfl, by simp, by simp, by simp⟩
  | lptr s off =>
    have e : roundEnv ρ t = .none := by unfold roundEnv; rw [hρ]
    rw [e]; exact ⟨rfl, rfl, by simp, by simp, by simp⟩
  | arr sz es =>
    have e : roundEnv ρ t = .none := by unfold roundEnv; rw [hρ]
    rw [e]; exact ⟨rfl, rfl, by simp, by simp, by simp⟩
  | larr s off =>
    have e : roundEnv ρ t = .none := by unfold roundEnv; rw [hρ]
    rw [e]; exact ⟨rfl, rfl, by simp, by simp, by simp⟩

theorem OK.grabs (h : OK G an B0 st ρ σ tmps) {md : List Nat} (h1 : ∀ x ∈ md, (∀ p, ¬ Has st.L ρ p x) ∧ x < st.w.heap.size ∧ ¬ st.S x) : OK G an (fun b => B0 b ∨ b ∈ md) st ρ σ tmps :=
  ⟨h.size, h.slot, h.fits, h.lptr, fun p b hp => ⟨fun hb => by
    rcases hb with hb | hb
    · exact (h.priv p b hp).1 hb
    · exact (h1 b hb).1 p hp, (h.priv p b hp).2⟩, h.inj, fun b hb => by
    rcases hb with hb | hb
    · exact h.base b hb
    · exact (h1 b hb).2.1, fun b hs hb => by
    rcases hb with hb | hb
    · exact h.out b hs hb
    · exact (h1 b hb).2.2 hs, h.sr, h.larr⟩

/-- What a range over a function's call leaves, once its record is laid. -/
theorem range_core {k : Nat} (hO : OrSound G k O) {ps : Array Tmp} {assign body : Code} {e : XExit} {g : FuncId} {first cap : List AV} {fs cs : Array Value} {v : AV} {σ2 : Sig} {L' : ALoop} {N n : Nat} {B : Nat → Prop} {r : Option Nat}
    {w2 : World} {l bd : Nat} {md : List Nat} {fn : FuncId} (hreg : regionsOK G E.an assign = true ∧ regionsOK G E.an body = true) (hann : G.ann E.fn = some E.an)
    (hN : N ≤ st.w.heap.size) (hok : OK G E.an B st ρ σ a.tmps) (hm : Marks N B st a.defers)
    (hps : (ps.toList.all fun t => decide (t < E.an.ntmps) && !E.an.loc.contains t) = true)
    (hOc : O (.call g (first ++ [.yield σ.length] ++ cap) (σ ++ [.loop { fn := E.fn, env := roundEnv ρ, params := ps, assign := assign, body := body, state := .ready, pending := none }])) = some (.ret v σ2))
    (hL' : σ2[σ.length]? = some (.loop L')) (hbusy : ¬ L'.state = .busy)
    (h : (match L'.pending with
          | none => some (XExit.normal, ρ, σ2.set σ.length (.loop { L' with state := .exhausted }))
          | some .ret => some (.ret, ρ, σ2.set σ.length (.loop { L' with state := .exhausted }))
          | some (.exit id) => some (.exit id, ρ, σ2.set σ.length (.loop { L' with state := .exhausted }))
          | _ => none) = some (e, ρ', σ'))
    (hr1 : Reps st.w st.ext st.ι first fs.toList) (hr2 : Reps st.w st.ext st.ι cap cs.toList) (hnew : Newer st.w w2) (hl0 : st.w.heap.size ≤ l) (hl1 : l < w2.heap.size)
    (hrec : w2.heap[l]? = some (.loop { state := .ready, pending := none, fn, tmps := a.tmps, params := ps, assign, body, defers := bd }))
    (hmd1 : md.Nodup) (hmd : ∀ x ∈ md, st.w.heap.size ≤ x ∧ x < w2.heap.size ∧ x ≠ l ∧ w2.heap[x]? = some (.deferred (some []))) :
    CallsIn (fen r) (n - 1) G.P g (fs ++ #[Value.func (.yield l) #[] #[]] ++ cs) w2 (rangePost (fen r) n G.P l (CodePost G E N B st e ρ' σ') { a with defers := md.map (fun b => { target := .collected b, args := #[] }) ++ a.defers }) := by
  obtain ⟨hbody, hcalls⟩ := hO.call _ _ _ _ _ hOc
  have hg0 := hnew.grow hok.sr (ext' := st.ext) (fun _ _ => rfl)
  have hg : Grow st.w st.ext st.ι w2 st.ext (st.ι ++ [l]) := ⟨hg0.cell, hg0.ext, List.prefix_append _ _⟩
  obtain ⟨st1, e1, e2, e3, eS, eL, hok1, hst1⟩ := hok.add (ext' := st.ext) (b := l) (o := .loop { fn := E.fn, env := roundEnv ρ, params := ps, assign := assign, body := body, state := .ready, pending := none })
    hnew (fun _ _ => rfl) (fun b hb => hok.sr.fresh b (Nat.le_trans hnew.size hb)) (by omega) (by omega)
    (by
      refine ⟨a.tmps, bd, E.an, fn, hrec, hann, hok.size, fun t ht => ?_, hreg.1, hreg.2, fun t => ?_⟩
      · rw [List.all_eq_true] at hps
        have := hps t ht
        simpa using this
      · exact round_slot hok hg t)
  have hno : ∀ x ∈ md, ∀ p, ¬ Has st1.L ρ p x := by
    intro x hx p hp
    rw [eL] at hp
    have := (hok.priv p x hp).2.1
    have := (hmd x hx).1
    omega
  have hok1' := hok1.grabs (md := md) (fun x hx => ⟨hno x hx, by rw [e1]; exact (hmd x hx).2.1, by
    rw [eS]; intro hS
    have h0 := hmd x hx
    rcases hS with hS | hS
    · have := hok.sr.small _ hS; omega
    · exact h0.2.2.1 hS⟩)
  have hι : st1.ι[σ.length]? = some l := by rw [e3, ← hok.sr.len]; simp
  have hreps : Reps st1.w st1.ext st1.ι (first ++ [.yield σ.length] ++ cap) (fs ++ #[Value.func (.yield l) #[] #[]] ++ cs).toList := by
    have := ((hr1.mono hst1.grow).append (.cons _ _ _ _ (.yield _ _ hι) .nil)).append (hr2.mono hst1.grow)
    simpa using this
  have hcall := hcalls st1 (fs ++ #[Value.func (.yield l) #[] #[]] ++ cs) (n - 1) hok1.sr hreps
  rw [e1] at hcall
  refine CallsIn.mono (F := fen r) hcall fun en w3 hen => ?_
  cases en with
  | panicked _ => exact hen.elim
  | outgrown => exact hen.elim
  | returned c =>
  obtain ⟨st2, rfl, q1, q2, q3, q4⟩ := hen
  obtain ⟨hok2, hst2⟩ := hok1'.called q1 q3 q4
  have hι2 : st2.ι[σ.length]? = some l := pre_get q3.grow.pre hι
  have hlo := q1.obj σ.length (.loop L') _ hL' hι2
  obtain ⟨rr, r1, r2, r3, r4⟩ := LoopOK.set hlo .exhausted L'.pending
  have hend := run_endLoop (P := G.P) r1 (by rw [r2]; exact hbusy)
  have hrr : ({ rr with state := .exhausted } : Loop) = { rr with state := .exhausted, pending := L'.pending } := by rw [← r3]
  rw [hrr, r3] at hend
  obtain ⟨hok3, hst3⟩ := hok2.setLoop hL' hι2 r1 (Turn.putObj st2.w l (.loop { rr with state := .exhausted, pending := L'.pending })) r4
  refine ⟨L'.pending, _, hend, ?_⟩
  have hBB : ∀ b, B b → B b ∨ b ∈ md := fun b hb => .inl hb
  have hstep := hst1.trans ((hst2.trans hst3).weaken hBB)
  have hmark : Marks N (fun b => B b ∨ b ∈ md) { st2 with w := st2.w.putObj l (.loop { rr with state := .exhausted, pending := L'.pending }), L := st1.L } (md.map (fun b => { target := .collected b, args := #[] }) ++ a.defers) := by
    obtain ⟨ms, m1, m2, m3⟩ := hm
    refine ⟨md ++ ms, by rw [m1]; simp, List.nodup_append.2 ⟨hmd1, m2, fun x hx y hy hxy => ?_⟩, fun b hb => ?_⟩
    · subst hxy
      have h1 := hok.base _ (m3 _ hy).2.1
      have h2 := (hmd _ hx).1
      omega
    · rcases List.mem_append.1 hb with hb | hb
      · refine ⟨Nat.le_trans hN (hmd b hb).1, .inr hb, ?_⟩
        have := ((hst2.trans hst3).blk b (.inr hb)).1
        rw [this, e1]; exact (hmd b hb).2.2.2
      · refine ⟨(m3 b hb).1, .inl (m3 b hb).2.1, ?_⟩
        have := (hstep.blk b (m3 b hb).2.1).1
        rw [this]; exact (m3 b hb).2.2
  have fin : ∀ e', CodePost G E N B st e' ρ (σ2.set σ.length (.loop { L' with state := .exhausted })) e'.to { a with defers := md.map (fun b => { target := .collected b, args := #[] }) ++ a.defers } (st2.w.putObj l (.loop { rr with state := .exhausted, pending := L'.pending })) :=
    fun e' => ⟨rfl, _, { st2 with w := st2.w.putObj l (.loop { rr with state := .exhausted, pending := L'.pending }), L := st1.L }, rfl, hBB, hok3, hstep, hmark⟩
  split at h
  · rename_i hp
    simp only [Option.some.injEq, Prod.mk.injEq] at h
    obtain ⟨rfl, rfl, rfl⟩ := h
    simp only [hp]
    exact hp ▸ fin .normal
  · rename_i hp
    simp only [Option.some.injEq, Prod.mk.injEq] at h
    obtain ⟨rfl, rfl, rfl⟩ := h
    simp only [hp]
    exact wpIn_ret (hp ▸ fin .ret)
  · rename_i id hp
    simp only [Option.some.injEq, Prod.mk.injEq] at h
    obtain ⟨rfl, rfl, rfl⟩ := h
    simp only [hp]
    exact wpIn_exit (hp ▸ fin (.exit id))
  · simp at h

theorem range_sound {k : Nat} (hO : OrSound G k O) {f : Operand} {ps : Array Tmp} {assign body : Code} {e : XExit} (h : execC G E O (.rangeFunc f ps assign body) ρ σ = some (e, ρ', σ')) :
    CodeOK G E (.rangeFunc f ps assign body) ρ σ e ρ' σ' := by
  intro hreg hann st a N B n r hr hN hok hm
  simp only [regionsOK, Bool.and_eq_true] at hreg
  simp only [execC] at h
  split at h
  · rename_i g first cap hf
    have hrep := opv_rep hok rfl (fun _ _ => rfl) hf
    split at h
    · simp at h
    · rename_i hround
      split at h
      · simp at h
      · rename_i hps
        have hps : (ps.toList.all fun t => decide (t < E.an.ntmps) && !E.an.loc.contains t) = true := eq_true_of_ne_false hps
        split at h
        · rename_i v σ2 hcall
          have hOc : O (.call g (first ++ [.yield σ.length] ++ cap) (σ ++ [.loop { fn := E.fn, env := roundEnv ρ, params := ps, assign := assign, body := body, state := .ready, pending := none }])) = some (.ret v σ2) := by
            unfold retOf at hcall
            split at hcall
            · rename_i e'; simp at hcall; obtain ⟨rfl, rfl⟩ := hcall; exact e'
            · simp at hcall
          split at h
          · rename_i L' hL'
            split at h
            · simp at h
            · rename_i hbusy
              obtain ⟨hbody, _⟩ := hO.call _ _ _ _ _ hOc
              generalize hev : a.eval f = ev at hrep
              cases hrep with
              | func _ _ _ fs cs hr1 hr2 =>
              have hmap : ∀ l, (#[Operand.const (Value.func (.yield l) #[] #[])].map a.eval) = #[Value.func (.yield l) #[] #[]] := by intro l; simp [Act.eval]
              have fin : ∀ fn, ∃ (l : Nat) (w2 : World) (md : List Nat), (Instr.enterLoop fn a.tmps ps assign body r).run G.P st.w = .ok (l, md.map (fun b => { target := .collected b, args := #[] })) w2 ∧
                  CallsIn (fen r) (n - 1) G.P g (fs ++ #[Value.func (.yield l) #[] #[]] ++ cs) w2 (rangePost (fen r) n G.P l (CodePost G E N B st e ρ' σ') { a with defers := md.map (fun b => { target := .collected b, args := #[] }) ++ a.defers }) := by
                intro fn
                unfold RoundOK at hr
                cases hro : E.round with
                | none =>
                  rw [hro] at hr
                  subst hr
                  obtain ⟨w2, hw2⟩ : ∃ w2, w2 = (st.w.alloc (.deferred (some []))).alloc (.loop { state := .ready, pending := none, fn, tmps := a.tmps, params := ps, assign, body, defers := st.w.heap.size }) := ⟨_, rfl⟩
                  have hnew : Newer st.w w2 := by rw [hw2]; exact (Newer.alloc _ _).trans (Newer.alloc _ _)
                  have hsz : w2.heap.size = st.w.heap.size + 2 := by rw [hw2]; simp
                  have hb0 : w2.heap[st.w.heap.size]? = some (.deferred (some [])) := by
                    rw [hw2, heap_alloc_old _ _ (by simp)]; exact heap_alloc_new _ _
                  have hb1 : w2.heap[st.w.heap.size + 1]? = some (.loop { state := .ready, pending := none, fn, tmps := a.tmps, params := ps, assign, body, defers := st.w.heap.size }) := by
                    have := heap_alloc_new (st.w.alloc (.deferred (some []))) (.loop { state := .ready, pending := none, fn, tmps := a.tmps, params := ps, assign, body, defers := st.w.heap.size })
                    rw [hw2]; simpa using this
                  refine ⟨st.w.heap.size + 1, w2, [st.w.heap.size], by rw [hw2]; exact run_enterLoop_outer _ _ _ _ _, ?_⟩
                  exact range_core hO hreg hann hN hok hm hps hOc hL' hbusy h hr1 hr2 hnew (by omega) (by omega) hb1 (by simp) (fun x hx => by
                    simp at hx; subst hx
                    exact ⟨Nat.le_refl _, by omega, by omega, hb0⟩)
                | some l0 =>
                  rw [hro] at hr
                  obtain ⟨b0, rfl, hb0⟩ := hr
                  have hl0 : ∃ L0, σ[l0]? = some (.loop L0) := by
                    cases hσ : σ[l0]? with
                    | none => exact absurd (by simp [roundOk, hro, hσ]) hround
                    | some o =>
                      cases o with
                      | box cs ow => exact absurd (by simp [roundOk, hro, hσ]) hround
                      | loop L0 => exact ⟨L0, rfl⟩
                  obtain ⟨L0, hL0⟩ := hl0
                  obtain ⟨tmps0, bd0, an0, fn0, hh0, _⟩ := (hok.sr.obj l0 (.loop L0) b0 hL0 hb0).ex
                  obtain ⟨w2, hw2⟩ : ∃ w2, w2 = st.w.alloc (.loop { state := .ready, pending := none, fn, tmps := a.tmps, params := ps, assign, body, defers := bd0 }) := ⟨_, rfl⟩
                  have hnew : Newer st.w w2 := by rw [hw2]; exact Newer.alloc _ _
                  have hsz : w2.heap.size = st.w.heap.size + 1 := by rw [hw2]; simp
                  have hb1 : w2.heap[st.w.heap.size]? = some (.loop { state := .ready, pending := none, fn, tmps := a.tmps, params := ps, assign, body, defers := bd0 }) := by
                    rw [hw2]; exact heap_alloc_new _ _
                  refine ⟨st.w.heap.size, w2, [], by rw [hw2]; exact run_enterLoop_inner hh0 _ _ _ _ _, ?_⟩
                  exact range_core hO hreg hann hN hok hm hps hOc hL' hbusy h hr1 hr2 hnew (Nat.le_refl _) (by omega) hb1 (by simp) (fun x hx => by cases hx)
              refine wpIn_rangeFunc fun fn _ => ?_
              obtain ⟨l, w2, md, g1, g3⟩ := fin fn
              refine ⟨l, md.map (fun b => { target := .collected b, args := #[] }), w2, { target := .fn (.func g) cs, args := fs ++ #[Value.func (.yield l) #[] #[]] }, w2, g, fs ++ #[Value.func (.yield l) #[] #[]] ++ cs, w2, g1, ?_, fun _ _ => trivial, ?_, fun hd => by simp [fen, Fence.wide] at hd, g3⟩
              · simp only [resolve, rangeCall, hmap, hev, Deferred.ofValue, Sem.run_pure]
              · simp only [invoke]; exact callFunc_run hbody _ _
          · simp at h
        · simp at h
  · simp at h

theorem code_sound {k : Nat} (hP : PrgOK G) (hO : OrSound G k O) : ∀ (c : Code) (ρ : Env) (σ : Sig) (e : XExit) (ρ' : Env) (σ' : Sig), execC G E O c ρ σ = some (e, ρ', σ') → CodeOK G E c ρ σ e ρ' σ' := by
  intro c
  induction c with
  | skip =>
    intro ρ σ e ρ' σ' h hreg hann st a N B n r hr hN hok hm
    simp only [execC, Option.some.injEq, Prod.mk.injEq] at h
    obtain ⟨rfl, rfl, rfl⟩ := h
    exact wpIn_skip (CodePost.here hok hm)
  | ret =>
    intro ρ σ e ρ' σ' h hreg hann st a N B n r hr hN hok hm
    simp only [execC, Option.some.injEq, Prod.mk.injEq] at h
    obtain ⟨rfl, rfl, rfl⟩ := h
    exact wpIn_ret (CodePost.here hok hm)
  | exit id =>
    intro ρ σ e ρ' σ' h hreg hann st a N B n r hr hN hok hm
    simp only [execC, Option.some.injEq, Prod.mk.injEq] at h
    obtain ⟨rfl, rfl, rfl⟩ := h
    exact wpIn_exit (CodePost.here hok hm)
  | seq x y ihx ihy =>
    intro ρ σ e ρ' σ' h hreg hann st a N B n r hr hN hok hm
    simp only [regionsOK, Bool.and_eq_true] at hreg
    simp only [execC] at h
    refine wpIn_seq ?_
    split at h
    · rename_i ρ1 σ1 h1
      refine wpIn_mono (ihx _ _ _ _ _ h1 hreg.1 hann st a N B n r hr hN hok hm) fun ex a' w' hp => ?_
      obtain ⟨rfl, B', st', rfl, hB, hok', hst, hm'⟩ := hp
      show y.wpIn _ _ _ _ a' st'.w
      exact wpIn_mono (ihy _ _ _ _ _ h hreg.2 hann st' a' N B' n r (hr.step hst) (Nat.le_trans hN hst.size) hok' hm') fun ex a'' w'' hp => CodePost.from hB hst hp
    · rename_i r' hne
      have hne' : e ≠ .normal := by rintro rfl; exact hne _ _ h
      refine wpIn_mono (ihx _ _ _ _ _ h hreg.1 hann st a N B n r hr hN hok hm) fun ex a' w' hp => ?_
      obtain ⟨rfl, hp⟩ := hp
      have : CodePost G E N B st e ρ' σ' e.to a' w' := ⟨rfl, hp⟩
      cases e with
      | normal => exact absurd rfl hne'
      | exit id => exact this
      | ret => exact this
  | cond c x y ihx ihy =>
    intro ρ σ e ρ' σ' h hreg hann st a N B n r hr hN hok hm
    simp only [regionsOK, Bool.and_eq_true] at hreg
    simp only [execC] at h
    split at h
    · rename_i hc
      exact wpIn_cond_true (rep_bool_inv (opv_rep hok rfl (fun _ _ => rfl) hc)) (ihx _ _ _ _ _ h hreg.1 hann st a N B n r hr hN hok hm)
    · rename_i hc
      exact wpIn_cond_false (rep_bool_inv (opv_rep hok rfl (fun _ _ => rfl) hc)) (ihy _ _ _ _ _ h hreg.2 hann st a N B n r hr hN hok hm)
    · simp at h
  | block id b ih =>
    intro ρ σ e ρ' σ' h hreg hann st a N B n r hr hN hok hm
    simp only [regionsOK] at hreg
    simp only [execC] at h
    refine wpIn_block ?_
    split at h
    · rename_i id' ρ1 σ1 h1
      simp only [Option.some.injEq, Prod.mk.injEq] at h
      obtain ⟨rfl, rfl, rfl⟩ := h
      refine wpIn_mono (ih _ _ _ _ _ h1 hreg hann st a N B n r hr hN hok hm) fun ex a' w' hp => ?_
      obtain ⟨rfl, hp⟩ := hp
      show if id' = id then _ else _
      split
      · exact ⟨rfl, hp⟩
      · exact ⟨rfl, hp⟩
    · rename_i r' hne
      refine wpIn_mono (ih _ _ _ _ _ h hreg hann st a N B n r hr hN hok hm) fun ex a' w' hp => ?_
      obtain ⟨rfl, hp⟩ := hp
      have : CodePost G E N B st e ρ' σ' e.to a' w' := ⟨rfl, hp⟩
      cases e with
      | normal => exact this
      | exit id' => exact absurd h (hne id' _ _)
      | ret => exact this
  | loop b ih =>
    intro ρ σ e ρ' σ' h hreg hann st a N B n r hr hN hok hm
    exact loop_of_Wn (loop_sound hO ih h hreg hann st a N B n r hr hN hok hm)
  | region id ops draw =>
    intro ρ σ e ρ' σ' h hreg hann st a N B n r hr hN hok hm
    simp only [execC] at h
    split at h
    · rename_i ρ1 σ1 h1
      simp only [Option.some.injEq, Prod.mk.injEq] at h
      obtain ⟨rfl, rfl, rfl⟩ := h
      have hfin : ∀ a' st', OK G E.an B st' ρ1 σ1 a'.tmps → Step B st st' → a'.defers = a.defers → CodePost G E N B st .normal (AI.forget (E.an.outOf id) ρ1) σ1 .normal a' st'.w :=
        fun a' st' hok' hst' hd' => ⟨rfl, B, st', rfl, fun _ h => h, hok'.forget _, hst', by rw [hd']; exact hm.step (fun _ h => h) hst'⟩
      unfold aregion at h1
      split at h1
      · rename_i hpen
        simp only [Bool.and_eq_true] at hpen
        obtain ⟨rfl, hpen⟩ := hpen
        split at h1
        · rename_i front A I S Bo hparts
          split at h1
          · rename_i ρ2 σ2 hfront
            split at h1
            · rename_i ups hups
              simp only [regionsOK, Bool.not_true, Bool.false_or, hpen, if_true] at hreg
              obtain ⟨hok', hst'⟩ := hok.newer (ext' := st.ext) (Newer.drew st.w) (fun _ _ => rfl) (fun b hb => hok.sr.fresh b hb)
              refine wpIn_region_any hP.mixed ?_
              exact pen_sound (st := { st with w := st.w.drew }) (ds := a.defers) hP hO r n hreg hparts hfront hups h1 hok' hst' rfl hfin
            · simp at h1
          · simp at h1
        · simp at h1
      · rename_i hpen
        rw [← aops_range] at h1
        cases draw with
        | false => exact wpIn_region (ops_sound hP hO _ n _ _ _ st a h1 hok (Step.refl _ _) rfl hfin)
        | true =>
          have hpen : E.an.pen.contains id = false := by simpa using hpen
          simp only [regionsOK, Bool.not_true, Bool.false_or, hpen, Bool.false_eq_true, if_false] at hreg
          obtain ⟨hok', hst'⟩ := hok.newer (ext' := st.ext) (Newer.drew st.w) (fun _ _ => rfl) (fun b hb => hok.sr.fresh b hb)
          refine wpIn_region_any hP.mixed ?_
          refine any_sound hP hO r n hreg ops.size (List.range ops.size) _ _ _ { st with w := st.w.drew } a (by simp) List.pairwise_lt_range (by simp) (fun i => ?_) (fun j hj => ?_) h1 hok' hst' rfl hfin
          · rw [List.mem_range]
            constructor
            · intro hi; exact ⟨hi, by simp [Array.getD_eq_getD_getElem?, hi]⟩
            · exact fun hi => hi.1
          · exfalso
            unfold Listed at hj
            rw [Array.getD_eq_getD_getElem?, Array.getElem?_replicate] at hj
            split at hj <;> simp at hj
    · simp at h
  | rangeFunc f ps assign body _ _ =>
    intro ρ σ e ρ' σ' h
    exact range_sound hO h
  | _ =>
    intro ρ σ e ρ' σ' h
    simp [execC] at h

end Go.AI

/- The abstract machine: older boxes name older boxes alone. -/
namespace Go.AI
set_option linter.unusedVariables false
set_option linter.unusedSimpArgs false
open Go

mutual
/-- Each shared name in it is below n. -/
def AV.und (n : Nat) : AV → Bool
  | .ptr id _ => decide (id < n)
  | .yield id => decide (id < n)
  | .iptr cs => AV.undL n cs
  | .slice _ es => AV.undL n es
  | .func _ a b => AV.undL n a && AV.undL n b
  | .iface _ v => v.und n
  | .agg cs => AV.undL n cs
  | .tuple cs => AV.undL n cs
  | _ => true
def AV.undL (n : Nat) : List AV → Bool
  | [] => true
  | v :: r => v.und n && AV.undL n r
end

theorem undL_append (n : Nat) (a b : List AV) : AV.undL n (a ++ b) = (AV.undL n a && AV.undL n b) := by
  induction a with
  | nil => simp [AV.undL]
  | cons x a ih => simp [AV.undL, ih, Bool.and_assoc]

theorem und_cells (n : Nat) (v : AV) : AV.undL n v.cells = v.und n := by
  cases v <;> simp [AV.cells, AV.undL, AV.und]

theorem undL_flatMap (n : Nat) (es : List AV) : AV.undL n (es.flatMap AV.cells) = AV.undL n es := by
  induction es with
  | nil => rfl
  | cons x a ih => simp [undL_append, und_cells, ih, AV.undL]

theorem undL_mem {n : Nat} {l : List AV} : AV.undL n l = true ↔ ∀ v ∈ l, v.und n = true := by
  induction l with
  | nil => simp [AV.undL]
  | cons x a ih => simp [AV.undL, ih]

mutual
theorem AV.flat_und (n : Nat) : ∀ (a : AV), a.flat = true → a.und n = true
  | .any, _ => rfl
  | .int .., _ => rfl
  | .bool _, _ => rfl
  | .str _, _ => rfl
  | .nilp, _ => rfl
  | .ptr .., h => by simp [AV.flat] at h
  | .iptr cs, h => by simp only [AV.flat] at h; simp only [AV.und]; exact AV.flatL_und n cs h
  | .slice _ es, h => by simp only [AV.flat] at h; simp only [AV.und]; exact AV.flatL_und n es h
  | .nilFunc, _ => rfl
  | .func _ a b, h => by
    simp only [AV.flat, Bool.and_eq_true] at h
    simp only [AV.und, Bool.and_eq_true]
    exact ⟨AV.flatL_und n a h.1, AV.flatL_und n b h.2⟩
  | .yield _, h => by simp [AV.flat] at h
  | .nilIface, _ => rfl
  | .iface _ v, h => by simp only [AV.flat] at h; simp only [AV.und]; exact AV.flat_und n v h
  | .nilMap, _ => rfl
  | .agg cs, h => by simp only [AV.flat] at h; simp only [AV.und]; exact AV.flatL_und n cs h
  | .tuple cs, h => by simp only [AV.flat] at h; simp only [AV.und]; exact AV.flatL_und n cs h
theorem AV.flatL_und (n : Nat) : ∀ (l : List AV), AV.flatL l = true → AV.undL n l = true
  | [], _ => rfl
  | v :: r, h => by
    simp only [AV.flatL, Bool.and_eq_true] at h
    simp only [AV.undL, Bool.and_eq_true]
    exact ⟨AV.flat_und n v h.1, AV.flatL_und n r h.2⟩
end

section
variable {w : World} {ext : Nat → Nat} {ι : List Nat}
mutual
theorem Rep.und {a : AV} {v : Value} : Rep w ext ι a v → a.und ι.length = true
  | .any _ => rfl
  | .int .. => rfl
  | .bool _ => rfl
  | .str _ => rfl
  | .nilp => rfl
  | .ptr id off b h => by simp only [AV.und, decide_eq_true_eq]; exact (List.getElem?_eq_some_iff.1 h).1
  | .iptr cs vs b off hr _ hc => by simp only [AV.und]; exact hr.undL
  | .slice sz es a n cap vs h1 h2 h3 hr _ hc => by simp only [AV.und]; rw [← undL_flatMap]; exact hr.undL
  | .nilFunc => rfl
  | .func g first cap f c h1 h2 => by simp only [AV.und, Bool.and_eq_true]; exact ⟨h1.undL, h2.undL⟩
  | .yield id b h => by simp only [AV.und, decide_eq_true_eq]; exact (List.getElem?_eq_some_iff.1 h).1
  | .nilIface => rfl
  | .iface t v v' h => by simp only [AV.und]; exact h.und
  | .nilMap => rfl
  | .agg cs vs h h1 => by simp only [AV.und]; exact h.undL
  | .tuple cs vs h => by simp only [AV.und]; exact h.undL
theorem Reps.undL {as : List AV} {vs : List Value} : Reps w ext ι as vs → AV.undL ι.length as = true
  | .nil => rfl
  | .cons a v as vs h hs => by simp only [AV.undL, Bool.and_eq_true]; exact ⟨h.und, hs.undL⟩
end

theorem take_get {ι : List Nat} {i m b : Nat} (h : ι[i]? = some b) (hi : i < m) : (ι.take m)[i]? = some b := by rw [List.getElem?_take_of_lt hi]; exact h

mutual
theorem Rep.cut {a : AV} {v : Value} (m : Nat) : Rep w ext ι a v → a.und m = true → Rep w ext (ι.take m) a v
  | .any v, _ => .any v
  | .int k n, _ => .int k n
  | .bool b, _ => .bool b
  | .str s, _ => .str s
  | .nilp, _ => .nilp
  | .ptr id off b h, hb => .ptr id off b (take_get h (by simpa [AV.und] using hb))
  | .iptr cs vs b off hr h1 hc, hb => .iptr cs vs b off (hr.cut m (by simpa [AV.und] using hb)) h1 hc
  | .slice sz es a n cap vs h1 h2 h3 hr h4 hc, hb => .slice sz es a n cap vs h1 h2 h3 (hr.cut m (by rw [undL_flatMap]; simpa [AV.und] using hb)) h4 hc
  | .nilFunc, _ => .nilFunc
  | .func g first cap f c h1 h2, hb => by
    simp only [AV.und, Bool.and_eq_true] at hb
    exact .func g first cap f c (h1.cut m hb.1) (h2.cut m hb.2)
  | .yield id b h, hb => .yield id b (take_get h (by simpa [AV.und] using hb))
  | .nilIface, _ => .nilIface
  | .iface t v v' h, hb => .iface t v v' (h.cut m (by simpa [AV.und] using hb))
  | .nilMap, _ => .nilMap
  | .agg cs vs h h1, hb => .agg cs vs (h.cut m (by simpa [AV.und] using hb)) h1
  | .tuple cs vs h, hb => .tuple cs vs (h.cut m (by simpa [AV.und] using hb))
theorem Reps.cut {as : List AV} {vs : List Value} (m : Nat) : Reps w ext ι as vs → AV.undL m as = true → Reps w ext (ι.take m) as vs
  | .nil, _ => .nil
  | .cons a v as vs h hs, hb => by
    simp only [AV.undL, Bool.and_eq_true] at hb
    exact .cons a v as vs (h.cut m hb.1) (hs.cut m hb.2)
end
end

def AObj.und (n : Nat) : AObj → Prop
  | .box cs _ => AV.undL n cs = true
  | .loop L => ∀ t v ow, L.env t = .val v ow → v.und n = true

def Bel (n : Nat) (σ : Sig) : Prop := ∀ id o, id < n → σ[id]? = some o → o.und n

def Keeps (b : Nat) (σ σ' : Sig) : Prop := σ.length ≤ σ'.length ∧ ∀ n, n ≤ b → Bel n σ → Bel n σ'

theorem Keeps.refl (b : Nat) (σ : Sig) : Keeps b σ σ := ⟨Nat.le_refl _, fun _ _ h => h⟩
theorem Keeps.trans {b : Nat} {σ σ1 σ2 : Sig} (h : Keeps b σ σ1) (k : Keeps b σ1 σ2) : Keeps b σ σ2 := ⟨Nat.le_trans h.1 k.1, fun n hn hb => k.2 n hn (h.2 n hn hb)⟩
theorem Keeps.less {b b' : Nat} {σ σ' : Sig} (h : Keeps b σ σ') (hb : b' ≤ b) : Keeps b' σ σ' := ⟨h.1, fun n hn => h.2 n (Nat.le_trans hn hb)⟩

theorem Keeps.add {b : Nat} {σ : Sig} (hb : b ≤ σ.length) (o : AObj) : Keeps b σ (σ ++ [o]) :=
  ⟨by simp, fun n hn h id o' hid ho => h id o' hid (by rwa [List.getElem?_append_left (by omega)] at ho)⟩

theorem Keeps.set {b : Nat} {σ : Sig} {id : Nat} {o : AObj} (h : ∀ n, n ≤ b → id < n → Bel n σ → o.und n) : Keeps b σ (σ.set id o) :=
  ⟨by simp, fun n hn hB id' o' hid ho => by
    by_cases hi : id' = id
    · subst hi
      rcases Nat.lt_or_ge id' σ.length with hl | hl
      · rw [List.getElem?_set_self hl] at ho
        simp at ho; subst ho
        exact h n hn hid hB
      · rw [List.getElem?_eq_none (by simpa using hl)] at ho; cases ho
    · rw [List.getElem?_set_ne (Ne.symm hi)] at ho
      exact hB id' o' hid ho⟩

structure OBel (O : Task → Option Res) : Prop where
  call : ∀ g args σ v σ', O (.call g args σ) = some (.ret v σ') → Keeps σ.length σ σ'
  yield : ∀ l args σ v σ', O (.yield l args σ) = some (.ret v σ') → Keeps σ.length σ σ'
  loop : ∀ E c ρ σ e ρ' σ', O (.loop E c ρ σ) = some (.code e ρ' σ') → E.base ≤ σ.length → Keeps E.base σ σ'

variable {G : Prg} {E : EE} {ρ ρ' : Env} {σ σ' : Sig} {ups : List (Nat × Slot)} {o : Oper} {O : Task → Option Res} {ops : Array Oper} {quiet : Bool}

theorem und_splice {n : Nat} {cs vs : List AV} {off : Nat} (h : AV.undL n cs = true) (hv : AV.undL n vs = true) : AV.undL n (splice cs off vs) = true := by
  rw [undL_mem] at *
  intro v hm
  unfold splice at hm
  simp only [List.mem_append] at hm
  rcases hm with (hm | hm) | hm
  · exact h v (List.mem_of_mem_take hm)
  · exact hv v hm
  · exact h v (List.mem_of_mem_drop hm)

theorem core_bel (hc : core G E o ρ σ = some (ups, σ')) (hb : E.base ≤ σ.length) : Keeps E.base σ σ' := by
  have pass : (∀ t, o.op ≠ .alloc t) → (∀ t x, o.op ≠ .box t x) → (∀ t x, o.op ≠ .load t x) → (∀ t x y, o.op ≠ .store t x y) → Keeps E.base σ σ' := by
    intro h1 h2 h3 h4
    have : core G E o ρ σ = (core1 G E o ρ).map fun u => (u, σ) := by
      unfold core
      cases ho : o.op <;> first | rfl | exact absurd ho (h1 _) | exact absurd ho (h2 _ _) | exact absurd ho (h3 _ _) | exact absurd ho (h4 _ _ _)
    rw [this, Option.map_eq_some_iff] at hc
    obtain ⟨u, hu, hc⟩ := hc
    simp only [Prod.mk.injEq] at hc
    rw [← hc.2]
    exact Keeps.refl _ _
  cases ho : o.op with
  | alloc t =>
    simp only [core, ho, Option.bind_eq_bind, Option.bind_eq_some_iff] at hc
    obtain ⟨cs, _, d, _, hc⟩ := hc
    split at hc
    · split at hc
      · simp at hc; rw [← hc.2]; exact Keeps.refl _ _
      · simp at hc
    · simp at hc; rw [← hc.2]; exact Keeps.add hb _
  | box t x =>
    simp only [core, ho, Option.bind_eq_bind, Option.bind_eq_some_iff] at hc
    obtain ⟨v, _, d, _, hc⟩ := hc
    split at hc
    · simp at hc
    · split at hc
      · split at hc
        · simp at hc; rw [← hc.2]; exact Keeps.refl _ _
        · simp at hc
      · split at hc
        · simp at hc; rw [← hc.2]; exact Keeps.refl _ _
        · simp at hc; rw [← hc.2]; exact Keeps.add hb _
  | load t x =>
    simp only [core, ho, Option.bind_eq_bind] at hc
    split at hc
    · simp at hc
    · rw [Option.bind_eq_some_iff] at hc
      obtain ⟨p, hp, hc⟩ := hc
      cases p with
      | im cs =>
        simp only [Option.bind_eq_some_iff] at hc
        obtain ⟨v, _, hc⟩ := hc
        simp at hc; rw [← hc.2]; exact Keeps.refl _ _
      | loc s off =>
        dsimp only at hc
        split at hc
        · simp only [Option.bind_eq_some_iff] at hc
          obtain ⟨v, _, d, _, hc⟩ := hc
          split at hc <;> (simp at hc; rw [← hc.2]; exact Keeps.refl _ _)
        · simp at hc
      | sh id off =>
        dsimp only at hc
        split at hc
        · rename_i cs ow hσ
          simp only [Option.bind_eq_some_iff] at hc
          obtain ⟨v, _, d, _, hc⟩ := hc
          split at hc
          · simp at hc; rw [← hc.2]
            exact Keeps.set fun n _ hid hB => show AV.undL n cs = true from hB id (.box cs ow) hid hσ
          · simp at hc; rw [← hc.2]; exact Keeps.refl _ _
        · simp at hc
  | store t x y =>
    simp only [core, ho, Option.bind_eq_bind] at hc
    rw [Option.bind_eq_some_iff] at hc
    obtain ⟨v, hv, hc⟩ := hc
    split at hc
    · simp at hc
    · rw [Option.bind_eq_some_iff] at hc
      obtain ⟨p, hp, hc⟩ := hc
      cases p with
      | im cs => simp at hc
      | loc s off =>
        dsimp only at hc
        split at hc
        · split at hc
          · simp at hc; rw [← hc.2]; exact Keeps.refl _ _
          · simp at hc
        · simp at hc
      | sh id off =>
        dsimp only at hc
        split at hc
        · rename_i cs ow hσ
          split at hc
          · rename_i hcond
            simp at hc; rw [← hc.2]
            refine Keeps.set fun n hn hid hB => ?_
            have hcs : AV.undL n cs = true := hB id _ hid hσ
            have hvf : v.flat = true := by
              rcases hcond.2 with h | h
              · omega
              · exact h
            refine und_splice hcs ?_
            rw [und_cells]; exact AV.flat_und n v hvf
          · simp at hc
        · simp at hc
  | _ => exact pass (by simp [ho]) (by simp [ho]) (by simp [ho]) (by simp [ho])

theorem retOf_some {r : Option Res} {v : AV} {s : Sig} (h : retOf r = some (v, s)) : r = some (.ret v s) := by
  unfold retOf at h
  split at h
  · simp at h; obtain ⟨rfl, rfl⟩ := h; rfl
  · simp at h

theorem stepOp_bel (hO : OBel O) (h : stepOp G E O ops quiet o ρ σ = some (ups, σ')) (hb : E.base ≤ σ.length) : Keeps E.base σ σ' := by
  unfold stepOp at h
  split at h
  · simp at h
  · simp at h; rw [← h.2]; exact Keeps.refl _ _
  · split at h
    · split at h
      · simp at h
      · split at h
        · simp at h; rw [← h.2]; exact Keeps.refl _ _
        · split at h
          · simp at h
          · split at h
            · rename_i hres
              simp at h; rw [← h.2]
              exact (hO.call _ _ _ _ _ (retOf_some hres)).less hb
            · simp at h
      · split at h
        · simp at h
        · split at h
          · rename_i hres
            simp at h; rw [← h.2]
            exact (hO.yield _ _ _ _ _ (retOf_some hres)).less hb
          · simp at h
    · split at h
      · rw [Option.map_eq_some_iff] at h
        obtain ⟨u, _, h⟩ := h
        simp only [Prod.mk.injEq] at h
        rw [← h.2]; exact Keeps.refl _ _
      · exact core_bel h hb

theorem aop_bel (hO : OBel O) (h : aop G E O ops quiet o ρ σ = some (ρ', σ')) (hb : E.base ≤ σ.length) : Keeps E.base σ σ' := by
  obtain ⟨ups, s, h1, _, _, rfl⟩ := aop_spec h
  split
  · rename_i hw
    rw [if_neg (by rw [hw]; simp)] at h1
    exact stepOp_bel hO h1 hb
  · exact Keeps.refl _ _

theorem aops_bel (hO : OBel O) : ∀ (l : List Oper) (ρ : Env) (σ : Sig), aops G E O ops quiet l ρ σ = some (ρ', σ') → E.base ≤ σ.length → Keeps E.base σ σ' := by
  intro l
  induction l with
  | nil => intro ρ σ h _; simp [aops] at h; rw [h.2]; exact Keeps.refl _ _
  | cons o l ih =>
    intro ρ σ h hb
    simp only [aops] at h
    split at h
    · simp at h
    · rename_i ρ1 σ1 h1
      have k := aop_bel hO h1 hb
      exact k.trans (ih _ _ h (Nat.le_trans hb k.1))

theorem exec_bel (hO : OBel O) : ∀ (c : Code) (ρ : Env) (σ : Sig) (e : XExit) (ρ' : Env) (σ' : Sig), execC G E O c ρ σ = some (e, ρ', σ') → E.base ≤ σ.length → Keeps E.base σ σ' := by
  intro c
  induction c with
  | skip => intro ρ σ e ρ' σ' h _; simp [execC] at h; rw [h.2.2]; exact Keeps.refl _ _
  | ret => intro ρ σ e ρ' σ' h _; simp [execC] at h; rw [h.2.2]; exact Keeps.refl _ _
  | exit id => intro ρ σ e ρ' σ' h _; simp [execC] at h; rw [h.2.2]; exact Keeps.refl _ _
  | seq x y ihx ihy =>
    intro ρ σ e ρ' σ' h hb
    simp only [execC] at h
    split at h
    · rename_i h1
      have k := ihx _ _ _ _ _ h1 hb
      exact k.trans (ihy _ _ _ _ _ h (Nat.le_trans hb k.1))
    · exact ihx _ _ _ _ _ h hb
  | cond c x y ihx ihy =>
    intro ρ σ e ρ' σ' h hb
    simp only [execC] at h
    split at h
    · exact ihx _ _ _ _ _ h hb
    · exact ihy _ _ _ _ _ h hb
    · simp at h
  | block id b ih =>
    intro ρ σ e ρ' σ' h hb
    simp only [execC] at h
    split at h
    · rename_i h1
      simp at h; rw [← h.2.2]
      exact ih _ _ _ _ _ h1 hb
    · exact ih _ _ _ _ _ h hb
  | loop b ih =>
    intro ρ σ e ρ' σ' h hb
    simp only [execC] at h
    split at h
    · rename_i h1
      have k := ih _ _ _ _ _ h1 hb
      split at h
      · rename_i h2
        simp at h; rw [← h.2.2]
        exact k.trans (hO.loop _ _ _ _ _ _ _ h2 (Nat.le_trans hb k.1))
      · simp at h
    · rename_i hx
      simp at h; rw [← h.2.2]
      exact ih _ _ _ _ _ hx hb
    · simp at h
  | region id ops draw =>
    intro ρ σ e ρ' σ' h hb
    simp only [execC] at h
    split at h
    · rename_i h1
      simp at h; rw [← h.2.2]
      unfold aregion at h1
      split at h1
      · split at h1
        · split at h1
          · rename_i hf
            have k := aops_bel hO _ _ _ hf hb
            split at h1
            · exact k.trans (aop_bel hO h1 (Nat.le_trans hb k.1))
            · simp at h1
          · simp at h1
        · simp at h1
      · exact aops_bel hO _ _ _ h1 hb
    · simp at h
  | rangeFunc f ps assign body _ _ =>
    intro ρ σ e ρ' σ' h hb
    simp only [execC] at h
    split at h
    · split at h
      · simp at h
      · split at h
        · simp at h
        · split at h
          · rename_i v σ2 hres
            have k1 := hO.call _ _ _ _ _ (retOf_some hres)
            have k := (Keeps.add (b := E.base) hb _).trans (k1.less (by simp; omega))
            have hset : ∀ (L : ALoop), Keeps E.base σ (σ2.set σ.length (.loop L)) := fun L => k.trans (Keeps.set fun n hn hid _ => by omega)
            split at h
            · split at h
              · simp at h
              · split at h
                · simp at h; rw [← h.2.2]; exact hset _
                · simp at h; rw [← h.2.2]; exact hset _
                · simp at h; rw [← h.2.2]; exact hset _
                · simp at h
            · simp at h
          · simp at h
    · simp at h
  | _ => intro ρ σ e ρ' σ' h; simp [execC] at h

theorem Keeps.take {b : Nat} {σ σ' : Sig} (h : Keeps b σ σ') (hl : σ.length = b) : Keeps b σ (σ'.take b) :=
  ⟨by have := h.1; simp; omega, fun n hn hB id o hid ho => h.2 n hn hB id o hid (by rwa [List.getElem?_take_of_lt (by omega)] at ho)⟩

theorem stepT_bel (hO : OBel O) : OBel (stepT G O) where
  call := by
    intro g args σ v σ' h
    simp only [stepT] at h
    split at h
    · rw [Option.map_eq_some_iff] at h
      obtain ⟨u, _, h⟩ := h
      simp at h; rw [← h.2]; exact Keeps.refl _ _
    split at h
    · split at h
      · split at h
        · split at h
          · simp at h
          · rename_i hne h1
            have k := exec_bel hO _ _ _ _ _ _ h1 (Nat.le_refl _)
            split at h
            · split at h
              · simp at h; rw [← h.2]; exact k
              · split at h
                · simp at h; rw [← h.2]; exact k.take rfl
                · simp at h
            · simp at h
          · simp at h
        · simp at h
      · simp at h
    · simp at h
  yield := by
    intro l args σ v σ' h
    simp only [stepT] at h
    split at h
    · rename_i L hL
      split at h
      · split at h
        · split at h
          · rename_i ρ1 σ1 h1
            have k1 := exec_bel hO _ _ _ _ _ _ h1 (Nat.le_refl _)
            split at h
            · rename_i L1 hL1
              split at h
              · split at h
                · rename_i e ρ2 σ2 h2
                  have kset : ∀ (s : Sig) (L L' : ALoop), s[l]? = some (.loop L) → L'.env = L.env → Keeps σ.length s (s.set l (.loop L')) := fun s L L' hs he => Keeps.set fun n hn hid hB => by
                    have := hB l _ hid hs
                    intro t v ow hv
                    rw [he] at hv
                    exact this t v ow hv
                  have k2 := kset σ1 L1 { L1 with state := .busy } hL1 rfl
                  have k3 := exec_bel hO _ _ _ _ _ _ h2 (by have := k1.1; simpa using this)
                  have k := (k1.trans k2).trans k3
                  split at h
                  · rename_i L2 hL2
                    split at h
                    · simp at h; rw [← h.2]; exact k.trans (kset _ L2 _ hL2 rfl)
                    · simp at h; rw [← h.2]; exact k.trans (kset _ L2 _ hL2 rfl)
                    · simp at h; rw [← h.2]; exact k.trans (kset _ L2 _ hL2 rfl)
                  · simp at h
                · simp at h
              · simp at h
            · simp at h
          · simp at h
        · simp at h
      · simp at h
    · simp at h
  loop := by
    intro E c ρ σ e ρ' σ' h hb
    simp only [stepT] at h
    split at h
    · split at h
      · rename_i h1
        simp at h
        obtain ⟨rfl, rfl, rfl⟩ := h
        exact exec_bel hO _ _ _ _ _ _ h1 hb
      · simp at h
    · simp at h

theorem F_bel (G : Prg) : ∀ n, OBel (F G n)
  | 0 => ⟨fun _ _ _ _ _ h => by simp [F] at h, fun _ _ _ _ _ h => by simp [F] at h, fun _ _ _ _ _ _ _ h => by simp [F] at h⟩
  | n + 1 => stepT_bel (F_bel G n)

end Go.AI

/- The abstract machine: functions and rounds; the evaluator is sound at each depth. -/
namespace Go.AI
set_option linter.unusedVariables false
set_option linter.unusedSimpArgs false
open Go

variable {G : Prg} {an : Ann} {E : EE} {B0 : Nat → Prop} {st st0 : St} {ρ ρm ρ' : Env} {σ σ' : Sig} {a : Act} {o : Oper} {tmps : Array Value} {O : Task → Option Res}

/-! ### Boxes are dropped -/

theorem ObjOK.cut {w : World} {ext : Nat → Nat} {ι : List Nat} {SL : Nat → Nat → Option Nat} {id b m : Nat} {o : AObj} (h : ObjOK w ext ι G SL σ id b o) (hb : o.und m) : ObjOK w ext (ι.take m) G SL σ' id b o := by
  cases o with
  | box cs ow =>
    obtain ⟨k1, vs, e, k2, k3, k4, k5⟩ := h
    exact ⟨k1, vs, e, k2, k3.cut m hb, k4, k5⟩
  | loop L =>
    obtain ⟨tmps, bd, an, fn, h1, h2, h3, h4, h4', h6, h5⟩ := h.ex
    exact ⟨tmps, bd, an, fn, h1, h2, h3, h4, h4', h6, fun t => ⟨(h5 t).1, (h5 t).2.1, (h5 t).2.2.1, (h5 t).2.2.2.1, fun v ow hv => ((h5 t).2.2.2.2 v ow hv).cut m (hb t v ow hv)⟩⟩

theorem SR.bel {w : World} {ext : Nat → Nat} {ι : List Nat} {S : Nat → Prop} {SL : Nat → Nat → Option Nat} (h : SR G w ext ι S SL σ) : Bel σ.length σ := by
  intro id o hid ho
  have hι : id < ι.length := by rw [h.len]; exact hid
  have := h.obj id o ι[id] ho (List.getElem?_eq_getElem hι)
  rw [← h.len]
  cases o with
  | box cs ow =>
    obtain ⟨k1, vs, e, k2, k3, k4, k5⟩ := this
    exact k3.undL
  | loop L =>
    obtain ⟨tmps, bd, an, fn, h1, h2, h3, h4, h4', h6, h5⟩ := this.ex
    intro t v ow hv
    exact ((h5 t).2.2.2.2 v ow hv).und

theorem SR.drop {w : World} {ext : Nat → Nat} {ι : List Nat} {S : Nat → Prop} {SL : Nat → Nat → Option Nat} (hP : PrgOK G) (h : SR G w ext ι S SL σ) (m : Nat) (hb : Bel m σ) : SR G w ext (ι.take m) S SL (σ.take m) where
  len := by simp [h.len]
  nodup := h.nodup.sublist (List.take_sublist _ _)
  obj := fun id o b ho hi => by
    have hm : id < m := by
      rcases Nat.lt_or_ge id m with h' | h'
      · exact h'
      · rw [List.getElem?_eq_none (by simp; omega)] at ho; cases ho
    rw [List.getElem?_take_of_lt hm] at ho hi
    exact (h.obj id o b ho hi).cut (hb id o hm ho)
  inS := fun b hb => h.inS b (List.mem_of_mem_take hb)
  ownS := fun id o i b ho hi hs => by
    have hm : id < m := by
      rcases Nat.lt_or_ge id m with h' | h'
      · exact h'
      · rw [List.getElem?_eq_none (by simp; omega)] at ho; cases ho
    rw [List.getElem?_take_of_lt hm] at ho
    have := h.ownS id o i b ho hi hs
    exact ⟨this.1, fun hb => this.2 (List.mem_of_mem_take hb)⟩
  inj := fun id o i id' o' i' b ho hi hs ho' hi' hs' => by
    have hm : ∀ (j : Nat) (p : AObj), (σ.take m)[j]? = some p → σ[j]? = some p := by
      intro j p hp
      rcases Nat.lt_or_ge j m with h' | h'
      · rwa [List.getElem?_take_of_lt h'] at hp
      · rw [List.getElem?_eq_none (by simp; omega)] at hp; cases hp
    exact h.inj id o i id' o' i' b (hm _ _ ho) hi hs (hm _ _ ho') hi' hs'
  small := h.small
  fresh := h.fresh
  globals := fun g a ha => (h.globals g a ha).flatι _ (hP.glob g a ha)

/-! ### A frame begins -/

theorem start_ok {st : St} {args : List AV} {vs : Array Value} (hsr : SR G st.w st.ext st.ι st.S st.SL σ) (hr : Reps st.w st.ext st.ι args vs.toList) (hl : args.length ≤ an.ntmps) :
    OK G an (Fz st) st (startEnv an args) σ (vs ++ Array.replicate (an.ntmps - vs.size) undef) := by
  have hlen := hr.length
  have hcase : ∀ t, startEnv an args t = .none ∨ ∃ v, startEnv an args t = .val v [] ∧ an.loc.contains t = false ∧ Rep st.w st.ext st.ι v ((vs ++ Array.replicate (an.ntmps - vs.size) undef).getD t undef) := by
    intro t
    unfold startEnv
    by_cases hloc : an.loc.contains t = true
    · left; rw [if_pos hloc]
    · rw [if_neg hloc]
      cases hv : args[t]? with
      | some v =>
        obtain ⟨c, hc, hrep⟩ := hr.get hv
        refine .inr ⟨v, rfl, by simpa using hloc, ?_⟩
        have hlt : t < vs.size := by simpa using (List.getElem?_eq_some_iff.1 hc).1
        rw [Array.getD_eq_getD_getElem?, Array.getElem?_append_left hlt]
        have : vs[t]? = some c := by simpa using hc
        rw [this]; exact hrep
      | none =>
        simp only
        split
        · rename_i ht
          refine .inr ⟨.tuple [], rfl, by simpa using hloc, ?_⟩
          have hge : vs.size ≤ t := by
            have := List.getElem?_eq_none_iff.1 hv
            simp at hlen; omega
          rw [Array.getD_eq_getD_getElem?, Array.getElem?_append_right hge, Array.getElem?_replicate, if_pos (by omega)]
          exact .tuple _ _ .nil
        · exact .inl rfl
  have hno : ∀ p b, ¬ Has st.L (startEnv an args) p b := by
    intro p b hp
    cases p with
    | box t =>
      rcases hcase t with h | ⟨v, h, _⟩
      · simp [Has, h, Slot.isLoc] at hp
      · simp [Has, h, Slot.isLoc] at hp
    | own t i =>
      rcases hcase t with h | ⟨v, h, _⟩
      · simp [Has, h, Slot.ows] at hp
      · simp [Has, h, Slot.ows] at hp
  refine ⟨by simp at hlen; simp; omega, fun t => ?_, fun t ht => ?_, fun t s off ht => ?_, fun p b hp => absurd hp (hno p b), fun p q b hp => absurd hp (hno p b), fun b hb => hb.1, fun b hs hb => hb.2 hs, hsr, fun t s n ht => ?_⟩
  · rcases hcase t with h | ⟨v, h, _, hr⟩
    · rw [h]; trivial
    · rw [h]; exact ⟨hr, fun i hi => by cases hi⟩
  · rcases hcase t with h | ⟨v, h, hl, _⟩
    · exact absurd h ht
    · rw [h]; simp only [fitsSlot, hl]; rfl
  · rcases hcase t with h | ⟨v, h, _⟩ <;> rw [h] at ht <;> cases ht
  · rcases hcase t with h | ⟨v, h, _⟩ <;> rw [h] at ht <;> cases ht

/-! ### Results -/

theorem resOf_run (h : OK G an B0 st ρ σ tmps) {r : ResultVar} {v : AV} (hv : resOf G ρ σ r = some v) :
    ∃ c, ((match r with | .tmp t => pure (tmps.getD t undef) | .cell a t => do loadVar t (← asAddr (tmps.getD a undef)) : Sem Value)).run G.P st.w = .ok c st.w ∧ Rep st.w st.ext st.ι v c := by
  cases r with
  | tmp t =>
    simp only [resOf] at hv
    split at hv
    · rename_i v' ow hρ
      simp at hv; subst hv
      have := h.slot t
      rw [hρ] at this
      exact ⟨_, rfl, this.1⟩
    · simp at hv
  | cell x t =>
    simp only [resOf] at hv
    split at hv
    · simp at hv
    · rename_i hty
      have hty : tyOk G.P t = true := eq_true_of_ne_false hty
      have hsl := h.slot x
      split at hv
      · rename_i cs ow hρ
        rw [hρ] at hsl
        obtain ⟨k1, k2, vs, e, k3, k4, k5, k6⟩ := hsl
        obtain ⟨c, hl, hrep, _⟩ := loadVar_run (P := G.P) st.w (st.L.β x) 0 hty k4 k5 (fun i x hx => by rw [cell_row k3, Nat.zero_add]; simpa using hx) 0 hv
        refine ⟨c, ?_, hrep⟩
        simp only [k1, asAddr, Sem.run_bind, Sem.run_pure, Result.andThen_ok]
        exact hl
      · rename_i id off ow hρ
        rw [hρ] at hsl
        split at hv
        · rename_i cs ow' hσ
          obtain ⟨b, hb, he⟩ := rep_ptr_inv hsl.1
          obtain ⟨k2, vs, e, k3, k4, k5, k6⟩ := h.sr.obj id _ b hσ hb
          obtain ⟨c, hl, hrep, _⟩ := loadVar_run (P := G.P) st.w b 0 hty k4 k5 (fun i x hx => by rw [cell_row k3, Nat.zero_add]; simpa using hx) off hv
          refine ⟨c, ?_, hrep⟩
          simp only [he, asAddr, Sem.run_bind, Sem.run_pure, Result.andThen_ok]
          rw [Nat.zero_add] at hl
          exact hl
        · simp at hv
      · simp at hv

theorem mapM_run {P : Program} {w : World} {ext : Nat → Nat} {ι : List Nat} {α : Type} {f : α → Sem Value} {g : α → Option AV} (h : ∀ r v, g r = some v → ∃ c, (f r).run P w = .ok c w ∧ Rep w ext ι v c) :
    ∀ (l : List α) (vs : List AV), l.mapM g = some vs → ∃ cs : List Value, (l.mapM f).run P w = .ok cs w ∧ Reps w ext ι vs cs := by
  intro l
  induction l with
  | nil => intro vs hv; simp at hv; subst hv; exact ⟨[], rfl, .nil⟩
  | cons x l ih =>
    intro vs hv
    simp only [List.mapM_cons, Option.bind_eq_bind, Option.bind_eq_some_iff, Option.pure_def] at hv
    obtain ⟨v, h1, vs', h2, h3⟩ := hv
    simp at h3; subst h3
    obtain ⟨c, hc, hr⟩ := h x v h1
    obtain ⟨cs, hcs, hrs⟩ := ih vs' h2
    refine ⟨c :: cs, ?_, .cons _ _ _ _ hr hrs⟩
    simp only [List.mapM_cons, Sem.run_bind, hc, Result.andThen_ok, hcs, Sem.run_pure]

theorem results_run (h : OK G an B0 st ρ σ tmps) {fn : Func} {vs : List AV} (hv : fn.results.toList.mapM (resOf G ρ σ) = some vs) :
    ∃ c, (results fn tmps).run G.P st.w = .ok c st.w ∧ Rep st.w st.ext st.ι (results1 vs) c := by
  obtain ⟨cs, hcs, hreps⟩ := mapM_run (P := G.P) (w := st.w) (f := fun r => (match r with | .tmp t => pure (tmps.getD t undef) | .cell a t => do loadVar t (← asAddr (tmps.getD a undef)) : Sem Value))
    (fun r v hv => resOf_run h hv) fn.results.toList vs hv
  have hrun : (results fn tmps).run G.P st.w = .ok (if h : cs.toArray.size = 1 then cs.toArray[0] else .tuple cs.toArray) st.w := by
    unfold results
    rw [Array.mapM_eq_mapM_toList]
    rw [Sem.run_bind]
    have hm : ((List.toArray <$> fn.results.toList.mapM fun r => (match r with | .tmp t => pure (tmps.getD t undef) | .cell a t => do loadVar t (← asAddr (tmps.getD a undef)) : Sem Value)) : Sem (Array Value)).run G.P st.w = .ok cs.toArray st.w := by
      simp only [Sem.run_map, hcs, Result.andThen_ok]
    erw [hm]
    rfl
  refine ⟨_, hrun, ?_⟩
  cases hreps with
  | nil => exact .tuple _ _ .nil
  | cons v c vs cs h1 h2 =>
    cases h2 with
    | nil => exact h1
    | cons v' c' vs' cs' h3 h4 =>
      exact .tuple _ _ (.cons _ _ _ _ h1 (.cons _ _ _ _ h3 h4))

end Go.AI

/- The abstract machine: the evaluator is sound at each depth. -/
namespace Go.AI
set_option linter.unusedVariables false
set_option linter.unusedSimpArgs false
open Go

variable {G : Prg} {an : Ann} {E : EE} {B0 B1 : Nat → Prop} {st st0 : St} {ρ ρm ρ' : Env} {σ σ' : Sig} {a : Act} {o : Oper} {tmps : Array Value} {O : Task → Option Res}

theorem OK.less (h : OK G an B0 st ρ σ tmps) (hB : ∀ b, B1 b → B0 b) : OK G an B1 st ρ σ tmps :=
  ⟨h.size, h.slot, h.fits, h.lptr, fun p b hp => ⟨fun hb => (h.priv p b hp).1 (hB b hb), (h.priv p b hp).2⟩, h.inj, fun b hb => h.base b (hB b hb), fun b hs hb => h.out b hs (hB b hb), h.sr, h.larr⟩

/-- The marks of a frame that leaves. -/
theorem shut_all {F : Fence} {n : Nat} {fn : Func} {R : Ending → World → Prop} : ∀ (ms : List Nat) (st : St), OK G an B1 st ρ σ tmps → ms.Nodup →
    (∀ b ∈ ms, ¬ B1 b ∧ b < st.w.heap.size ∧ ¬ st.S b ∧ (∀ p, ¬ Has st.L ρ p b) ∧ st.w.heap[b]? = some (.deferred (some []))) →
    (∀ st', OK G an B1 st' ρ σ tmps → Step B1 st st' → ∃ v, (results fn tmps).run G.P st'.w = .ok v st'.w ∧ R (.returned v) st'.w) →
    LeavesInM F n G.P fn tmps R (ms.map fun b => { target := .collected b, args := #[] }) .returning st.w := by
  intro ms
  induction ms with
  | nil =>
    intro st hok _ _ hend
    obtain ⟨v, h1, h2⟩ := hend st hok (Step.refl _ _)
    exact ⟨v, h1, h2⟩
  | cons b ms ih =>
    intro st hok hnd hms hend
    obtain ⟨hb, hnd⟩ := List.nodup_cons.1 hnd
    obtain ⟨k1, k2, k3, k4, k5⟩ := hms b (by simp)
    refine ⟨by simp, .inl ⟨b, _, rfl, run_takeDeferred k5, ?_⟩⟩
    have ht := Turn.putObj st.w b (.deferred none)
    have hg : Grow st.w st.ext st.ι (st.w.putObj b (.deferred none)) st.ext st.ι := ht.grow (fun _ _ => rfl) (Nat.le_refl _) fun oo v _ hc => by simp [World.cell?, k5] at hc
    obtain ⟨hok', hst⟩ := hok.turn hg ht (fun _ _ => rfl) k4 ⟨k1, k2, k3⟩
    refine ih { st with w := st.w.putObj b (.deferred none) } hok' hnd (fun c hc => ?_) fun st' h1 h2 => hend st' h1 (hst.trans h2)
    obtain ⟨q1, q2, q3, q4, q5⟩ := hms c (List.mem_cons_of_mem _ hc)
    refine ⟨q1, by simpa using q2, q3, q4, ?_⟩
    have hne : c ≠ b := by rintro rfl; exact hb hc
    rw [ht.blk c hne]; exact q5

/-- Functions that hand back their slice do so. -/
def PrimOK (G : Prg) : Prop := ∀ g, G.prim.contains g = true → Body G.P g ∧ ∀ (sz : Nat) (es : List AV) (σ : Sig) (st : St) (vs : Array Value) (n : Nat), sz = 1 → es.length ≤ 4294967296 →
  SR G st.w st.ext st.ι st.S st.SL σ → Reps st.w st.ext st.ι [.slice sz es] vs.toList → CallsIn Fence.wide n G.P g vs st.w (CPost G st (.slice sz es) σ)

theorem call_sound {k : Nat} (hP : PrgOK G) (hPr : PrimOK G) (hB : OBel O) (hO : OrSound G k O) {g : FuncId} {args : List AV} {v : AV} (h : stepT G O (.call g args σ) = some (.ret v σ')) :
    Body G.P g ∧ ∀ (st : St) (vs : Array Value) (n : Nat), SR G st.w st.ext st.ι st.S st.SL σ → Reps st.w st.ext st.ι args vs.toList → CallsIn Fence.wide n G.P g vs st.w (CPost G st v σ') := by
  simp only [stepT] at h
  split at h
  · rename_i hg
    rw [Option.map_eq_some_iff] at h
    obtain ⟨u, hu, h⟩ := h
    simp only [Res.ret.injEq] at h
    obtain ⟨rfl, rfl⟩ := h
    unfold primOf at hu
    split at hu
    · rename_i sz es
      split at hu
      · rename_i hc
        simp at hu; subst hu
        exact ⟨(hPr g hg).1, fun st vs n hsr hreps => (hPr g hg).2 sz es σ st vs n hc.1 hc.2 hsr hreps⟩
      · simp at hu
    · simp at hu
  split at h
  · rename_i an fn hann hfn
    split at h
    · rename_i c hbody
      split at h
      · rename_i hlen
        refine ⟨⟨fn, c, hfn, hbody, hP.name _ _ _ hann hfn⟩, fun st vs n hsr hreps => ?_⟩
        split at h
        · simp at h
        · rename_i e ρ1 σ1 hne hex
          split at h
          · rename_i rs hrs
            have hbel := (exec_bel hB _ _ _ _ _ _ hex (Nat.le_refl _)).2 σ.length (Nat.le_refl _) hsr.bel
            refine callsIn_of_wp_marks hfn hbody trivial ?_
            have hstart := start_ok (an := an) hsr hreps hlen
            have hsz := hP.size _ _ _ hann hfn
            have hcode := code_sound hP hO c _ _ _ _ _ hex (hP.reg _ _ _ _ hann hfn hbody) hann st { tmps := vs ++ Array.replicate (an.ntmps - vs.size) undef, defers := [] } st.w.heap.size (Fz st) n none rfl (Nat.le_refl _) hstart
              ⟨[], rfl, List.nodup_nil, by simp⟩
            rw [← hsz] at hcode
            refine wpIn_mono (F := Fence.wide) hcode fun ex a' w' hp => ?_
            obtain ⟨rfl, B', st1, rfl, hBB, hok, hst, ms, hms1, hms2, hms3⟩ := hp
            have hleave : LeavesInM Fence.wide n G.P fn a'.tmps (CPost G st v σ') a'.defers .returning st1.w := by
              rw [hms1]
              refine shut_all (an := an) (ρ := ρ1) (σ := σ1) (B1 := fun x => B' x ∧ x ∉ ms) ms st1 (hok.less fun b hb => hb.1) hms2 (fun b hb => ?_) fun st2 hok2 hst2 => ?_
              · obtain ⟨m1, m2, m3⟩ := hms3 b hb
                exact ⟨fun hx => hx.2 hb, hok.base b m2, fun hs => hok.out b hs m2, fun p hpp => (hok.priv p b hpp).1 m2, m3⟩
              · have hFz : ∀ x, Fz st x → B' x ∧ x ∉ ms := fun x hx => ⟨hBB x hx, fun hm => by
                  have := (hms3 x hm).1
                  have := hx.1
                  omega⟩
                obtain ⟨cv, hrun, hrep⟩ := results_run hok2 hrs
                refine ⟨cv, hrun, ?_⟩
                have hst' : Step (Fz st) st st2 := hst.trans (hst2.weaken hFz)
                have hout : ∀ b, st2.S b → ¬ Fz st b := fun b hs hf => hok2.out b hs (hFz b hf)
                split at h
                · simp only [Option.some.injEq, Res.ret.injEq] at h
                  obtain ⟨rfl, rfl⟩ := h
                  exact ⟨st2, rfl, hok2.sr, hrep, hst', hout⟩
                · split at h
                  · rename_i hflat
                    simp only [Option.some.injEq, Res.ret.injEq] at h
                    obtain ⟨rfl, rfl⟩ := h
                    refine ⟨{ st2 with ι := st2.ι.take σ.length }, rfl, hok2.sr.drop hP _ hbel, hrep.flatι _ hflat, ⟨⟨hst'.grow.cell, hst'.grow.ext, ?_⟩, hst'.size, hst'.blk, hst'.os, hst'.tape, hst'.output⟩, hout⟩
                    obtain ⟨t, ht⟩ := hst'.grow.pre
                    rw [← hsr.len, ← ht, List.take_left]
                    exact List.prefix_refl _
                  · simp at h
            cases e with
            | normal => exact hleave
            | ret => exact hleave
            | exit id => exact (hne id rfl).elim
          · simp at h
        · simp at h
      · simp at h
    · simp at h
  · simp at h

theorem params_ok {B : Nat → Prop} : ∀ (ps : List Tmp) (as : List AV) (cs : List Value) (st : St) (ρ : Env) (tmps : Array Value), Reps st.w st.ext st.ι as cs → OK G an B st ρ σ tmps → (∀ t ∈ ps, t < an.ntmps ∧ an.loc.contains t = false) →
    ∃ L, OK G an B { st with L := L } (apply ((ps.zip as).map fun (t, v) => (t, .val v [])) ρ) σ ((ps.zip cs).foldl (fun tmps (t, a) => tmps.setIfInBounds t a) tmps) := by
  intro ps
  induction ps with
  | nil => intro as cs st ρ tmps _ hok _; exact ⟨st.L, hok⟩
  | cons t ps ih =>
    intro as cs st ρ tmps hr hok hps
    cases hr with
    | nil => exact ⟨st.L, hok⟩
    | cons v c as cs h1 h2 =>
      obtain ⟨q1, q2⟩ := hps t (by simp)
      obtain ⟨L, hL⟩ := hok.putPlain q1 q2 h1
      obtain ⟨L', hL'⟩ := ih as cs { st with L := L } (upd ρ t (.val v [])) (tmps.setIfInBounds t c) h2 hL (fun t' ht' => hps t' (List.mem_cons_of_mem _ ht'))
      exact ⟨L', hL'⟩

theorem round_start {L : ALoop} {tmps : Array Value} {st : St} (hsr : SR G st.w st.ext st.ι st.S st.SL σ) (hsz : tmps.size = an.ntmps)
    (h : ∀ t, (L.env t).ows = [] ∧ (L.env t).isLoc = false ∧ (∀ s off, L.env t ≠ .lptr s off ∧ L.env t ≠ .larr s off) ∧ (L.env t ≠ .none → fitsSlot an t (L.env t) = true) ∧ ∀ v ow, L.env t = .val v ow → Rep st.w st.ext st.ι v (tmps.getD t undef)) :
    OK G an (Fz st) st L.env σ tmps := by
  have hno : ∀ p b, ¬ Has st.L L.env p b := by
    intro p b hp
    cases p with
    | box t => simp [Has, (h t).2.1] at hp
    | own t i => simp [Has, (h t).1] at hp
  refine ⟨hsz, fun t => ?_, fun t ht => (h t).2.2.2.1 ht, fun t s off ht => absurd ht ((h t).2.2.1 s off).1, fun p b hp => absurd hp (hno p b), fun p q b hp => absurd hp (hno p b), fun b hb => hb.1, fun b hs hb => hb.2 hs, hsr, fun t s n ht => absurd ht ((h t).2.2.1 s n).2⟩
  obtain ⟨h1, h2, h3, h4, h5⟩ := h t
  cases hρ : L.env t with
  | none => trivial
  | val v ow =>
    rw [hρ] at h1
    simp only [Slot.ows] at h1
    subst h1
    exact ⟨h5 v [] hρ, fun i hi => by cases hi⟩
  | loc cs ow => rw [hρ] at h2; cases h2
  | lptr s off => exact absurd hρ (h3 s off).1
  | arr sz es => rw [hρ] at h2; cases h2
  | larr s off => exact absurd hρ (h3 s off).2

theorem yield_sound {k : Nat} (hP : PrgOK G) (hO : OrSound G k O) {l : Nat} {args : List AV} {v : AV} (h : stepT G O (.yield l args σ) = some (.ret v σ'))
    (st : St) (vs : Array Value) (n b : Nat) (hsr : SR G st.w st.ext st.ι st.S st.SL σ) (hb : st.ι[l]? = some b) (hreps : Reps st.w st.ext st.ι args vs.toList) :
    ∃ r, st.w.heap[b]? = some (.loop r) ∧ vs.size = r.params.size ∧
      RoundIn Fence.wide n G.P b r.fn ((r.params.zip vs).foldl (fun tmps (t, a) => tmps.setIfInBounds t a) r.tmps) r.assign r.body st.w (CPost G st v σ') := by
  simp only [stepT] at h
  split at h
  · rename_i L hL
    split at h
    · rename_i an hann
      split at h
      · rename_i hready
        obtain ⟨hready, hargs⟩ := hready
        obtain ⟨tmps, bd, an', fn', hh, hann', htsz, hps, hreg1, hreg2, hslots⟩ := (hsr.obj l (.loop L) b hL hb).ex
        rw [hann] at hann'
        cases hann'
        have hvl := hreps.length
        refine ⟨_, hh, by simp at hvl ⊢; omega, ?_⟩
        split at h
        · rename_i ρ1 σ1 hassign
          split at h
          · rename_i L1 hL1
            split at h
            · rename_i hready1
              split at h
              · rename_i e ρ2 σ2 hbody
                refine roundIn_of_wpIn (F := Fence.wide) trivial ?_
                obtain ⟨Lx, hstart⟩ := params_ok L.params.toList args vs.toList st L.env tmps hreps (round_start hsr htsz hslots) hps
                have hfold : ((L.params.toList.zip vs.toList).foldl (fun tmps (t, a) => tmps.setIfInBounds t a) tmps) = (L.params.zip vs).foldl (fun tmps (t, a) => tmps.setIfInBounds t a) tmps := by
                  rw [← Array.foldl_toList, Array.toList_zip]
                rw [hfold] at hstart
                have c1 := code_sound hP hO L.assign _ _ _ _ _ hassign hreg1 hann { st with L := Lx } { tmps := (L.params.zip vs).foldl (fun tmps (t, a) => tmps.setIfInBounds t a) tmps, defers := [] } st.w.heap.size (Fz st) n (some b) ⟨b, rfl, hb⟩ (Nat.le_refl _) hstart
                  ⟨[], rfl, List.nodup_nil, by simp⟩
                refine wpIn_mono (F := Fence.wide.inRound b) c1 fun ex a1 w1 hp => ?_
                obtain ⟨rfl, B', st1, rfl, hBB, hok1, hst1, hm1⟩ := hp
                show ∃ w2, _ ∧ _
                have hι1 : st1.ι[l]? = some b := pre_get hst1.grow.pre hb
                obtain ⟨r1, p1, p2, p3, p4⟩ := LoopOK.set (hok1.sr.obj l (.loop L1) b hL1 hι1) .busy L1.pending
                have hbegin := run_beginRound (P := G.P) p1 (by rw [p2]; exact hready1)
                have hr1 : ({ r1 with state := .busy } : Loop) = { r1 with state := .busy, pending := L1.pending } := by rw [← p3]
                rw [hr1] at hbegin
                refine ⟨_, hbegin, ?_⟩
                obtain ⟨hok2, hst2⟩ := hok1.setLoop hL1 hι1 p1 (Turn.putObj st1.w b (.loop { r1 with state := .busy, pending := L1.pending })) p4
                have c2 := code_sound hP hO L.body _ _ _ _ _ hbody hreg2 hann { st1 with w := st1.w.putObj b (.loop { r1 with state := .busy, pending := L1.pending }) } a1 st.w.heap.size B' n (some b) ⟨b, rfl, pre_get hst2.grow.pre hι1⟩ (Nat.le_trans hst1.size hst2.size) hok2
                  (hm1.step (fun _ h => h) hst2)
                refine wpIn_mono (F := Fence.wide.inRound b) c2 fun ex a2 w2 hp => ?_
                obtain ⟨rfl, B'', st3, rfl, hBB2, hok3, hst3, _⟩ := hp
                have hι3 : st3.ι[l]? = some b := pre_get hst3.grow.pre hι1
                have hall : Step (Fz st) st st3 := by
                  have := (hst1.trans (hst2.weaken hBB)).trans (hst3.weaken hBB)
                  exact ⟨this.grow, this.size, this.blk, this.os, this.tape, this.output⟩
                split at h
                · rename_i L2 hL2
                  -- what a round's end comes to
                  have fin : ∀ (jump : Option Code) (s : LoopState), s = (if jump.isNone then .ready else .done) →
                      ∃ v' w4, (Instr.endRound b jump).run G.P st3.w = .ok v' w4 ∧ CPost G st (.bool jump.isNone) (σ2.set l (.loop { L2 with state := s, pending := jump })) (.returned v') w4 := by
                    intro jump s hs
                    obtain ⟨r3, u1, u2, u3, u4⟩ := LoopOK.set (hok3.sr.obj l (.loop L2) b hL2 hι3) s jump
                    have hend := run_endRound (P := G.P) jump u1
                    rw [← hs] at hend
                    obtain ⟨hok4, hst4⟩ := hok3.setLoop hL2 hι3 u1 (Turn.putObj st3.w b (.loop { r3 with state := s, pending := jump })) u4
                    refine ⟨_, _, hend, { st3 with w := st3.w.putObj b (.loop { r3 with state := s, pending := jump }) }, rfl, hok4.sr, .bool _, hall.trans (hst4.weaken fun x hx => hBB2 x (hBB x hx)), fun x hx hf => hok4.out x hx (hBB2 x (hBB x hf))⟩
                  split at h
                  · simp only [Option.some.injEq, Res.ret.injEq] at h
                    obtain ⟨rfl, rfl⟩ := h
                    exact fin none .ready rfl
                  · simp only [Option.some.injEq, Res.ret.injEq] at h
                    obtain ⟨rfl, rfl⟩ := h
                    exact fin (some .ret) .done rfl
                  · rename_i id
                    simp only [Option.some.injEq, Res.ret.injEq] at h
                    obtain ⟨rfl, rfl⟩ := h
                    exact fin (some (.exit id)) .done rfl
                · simp at h
              · simp at h
            · simp at h
          · simp at h
        · simp at h
      · simp at h
    · simp at h
  · simp at h

theorem stepT_sound {k : Nat} (hP : PrgOK G) (hPr : PrimOK G) (hB : OBel O) (hO : OrSound G k O) : OrSound G (k + 1) (stepT G O) where
  call := fun g args σ v σ' h => call_sound hP hPr hB hO h
  yield := fun l args σ v σ' h st vs n b hsr hb hr => yield_sound hP hO h st vs n b hsr hb hr
  loop := fun E b ρ σ e ρ' σ' h => by
    simp only [stepT] at h
    split at h
    · rename_i hex
      simp only [Option.some.injEq, Res.code.injEq] at h
      obtain ⟨rfl, rfl, rfl⟩ := h
      exact loop_sound hO (fun ρ σ e ρ' σ' => code_sound hP hO b ρ σ e ρ' σ') hex
    · simp at h

theorem F_sound (hP : PrgOK G) (hPr : PrimOK G) : ∀ n, OrSound G n (F G n)
  | 0 => ⟨fun _ _ _ _ _ h => by simp [F] at h, fun _ _ _ _ _ h => by simp [F] at h, fun _ _ _ _ _ _ _ h => by simp [F] at h⟩
  | n + 1 => stepT_sound hP hPr (F_bel G n) (F_sound hP hPr n)

end Go.AI

