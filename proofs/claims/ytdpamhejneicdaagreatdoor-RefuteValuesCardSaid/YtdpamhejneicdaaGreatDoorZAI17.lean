/- The abstract machine: code. -/
import Derived.Test.YtdpamhejneicdaaGreatDoorZAIQ
import Derived.RangeFuncNested
namespace Go.AI
set_option linter.unusedVariables false
set_option linter.unusedSimpArgs false
open Go

variable {G : Prg} {an : Ann} {E : EE} {B0 : Nat → Prop} {st st0 : St} {ρ ρm ρ' : Env} {σ σ' : Sig} {a : Act} {o : Oper} {tmps : Array Value} {O : Task → Option Res} {ops : Array Oper} {quiet : Bool}

/-! ### Loops -/

theorem then_mono {K K' : Act → World → Prop} {Q Q' : Exit → Act → World → Prop} (hK : ∀ a w, K a w → K' a w) (hQ : ∀ e a w, Q e a w → Q' e a w) (e : Exit) (a : Act) (w : World) (h : Exit.then K Q e a w) : Exit.then K' Q' e a w := by
  cases e <;> first | exact hK _ _ h | exact hQ _ _ _ h

theorem Wn.mono {F : Fence} {n : Nat} {P : Program} {b : Code} {Q Q' : Exit → Act → World → Prop} (hQ : ∀ e a w, Q e a w → Q' e a w) : ∀ (m : Nat) (a : Act) (w : World), Wn F n P b Q m a w → Wn F n P b Q' m a w
  | 0, _, _, h => h
  | m + 1, a, w, h => wpIn_mono h (then_mono (Wn.mono hQ m) hQ)

theorem least {p : Nat → Prop} (h : ∃ m, p m) : ∃ m, p m ∧ ∀ k, p k → m ≤ k := by
  obtain ⟨m, hm⟩ := h
  induction m using Nat.strongRecOn with
  | _ m ih =>
    by_cases hk : ∃ k, p k ∧ k < m
    · obtain ⟨k, h1, h2⟩ := hk
      exact ih k h2 h1
    · exact ⟨m, hm, fun k h => Nat.le_of_not_lt fun hlt => hk ⟨k, h, hlt⟩⟩

open Classical in
theorem loop_of_Wn {F : Fence} {n : Nat} {P : Program} {b : Code} {Q : Exit → Act → World → Prop} {m : Nat} {a : Act} {w : World} (h : Wn F n P b Q m a w) : (Code.loop b).wpIn F n P Q a w := by
  refine wpIn_loop (fun a w => ∃ m, Wn F n P b Q m a w) (fun a w => if h : ∃ m, Wn F n P b Q m a w then (least h).choose else 0) ⟨m, h⟩ fun a w hI => ?_
  obtain ⟨h1, h2⟩ := (least hI).choose_spec
  rw [dif_pos hI]
  generalize (least hI).choose = m at h1 h2
  cases m with
  | zero => exact h1.elim
  | succ m =>
    refine wpIn_mono h1 (then_mono (fun a' w' h' => ?_) fun _ _ _ h => h)
    have hI' : ∃ m, Wn F n P b Q m a' w' := ⟨m, h'⟩
    refine ⟨hI', ?_⟩
    rw [dif_pos hI']
    have := (least hI').choose_spec.2 m h'
    omega

/-! ### What code leaves -/

theorem Marks.step {N : Nat} {B B' : Nat → Prop} {st st' : St} {ds : List Deferred} (h : Marks N B st ds) (hB : ∀ b, B b → B' b) (hst : Step B st st') : Marks N B' st' ds := by
  obtain ⟨ms, h1, h2, h3⟩ := h
  exact ⟨ms, h1, h2, fun b hb => ⟨(h3 b hb).1, hB b (h3 b hb).2.1, by rw [(hst.blk b (h3 b hb).2.1).1]; exact (h3 b hb).2.2⟩⟩

theorem CodePost.from {N : Nat} {B B' : Nat → Prop} {st st' : St} {e : XExit} (hB : ∀ b, B b → B' b) (hst : Step B st st') {ex : Exit} {a : Act} {w : World} (h : CodePost G E N B' st' e ρ' σ' ex a w) : CodePost G E N B st e ρ' σ' ex a w := by
  obtain ⟨h1, B'', st'', h2, h3, h4, h5, h6⟩ := h
  exact ⟨h1, B'', st'', h2, fun b hb => h3 b (hB b hb), h4, hst.trans (h5.weaken hB), h6⟩

theorem CodePost.here {N : Nat} {B : Nat → Prop} {st : St} {e : XExit} (h : OK G E.an B st ρ σ a.tmps) (hm : Marks N B st a.defers) : CodePost G E N B st e ρ σ e.to a st.w :=
  ⟨rfl, B, st, rfl, fun _ h => h, h, Step.refl _ _, hm⟩

theorem loop_sound {k : Nat} (hO : OrSound G k O) {b : Code} {e : XExit} (ih : ∀ ρ σ e ρ' σ', execC G E O b ρ σ = some (e, ρ', σ') → CodeOK G E b ρ σ e ρ' σ') (h : execC G E O (.loop b) ρ σ = some (e, ρ', σ')) :
    LoopW G E b (k + 1) ρ σ e ρ' σ' := by
  intro hreg hann st a N B n r hr hN hok hm
  have hregb : regionsOK G E.an b = true := by simpa [regionsOK] using hreg
  simp only [execC] at h
  split at h
  · rename_i ρ1 σ1 hb
    split at h
    · rename_i e2 ρ2 σ2 hl
      simp only [Option.some.injEq, Prod.mk.injEq] at h
      obtain ⟨rfl, rfl, rfl⟩ := h
      refine wpIn_mono (ih _ _ _ _ _ hb hregb hann st a N B n r hr hN (hok.forget _) hm) fun ex a' w' hp => ?_
      obtain ⟨rfl, B', st', rfl, hB, hok', hst, hm'⟩ := hp
      show Wn _ _ _ _ _ k a' st'.w
      refine Wn.mono (fun ex a'' w'' hp => ?_) k a' st'.w (hO.loop _ _ _ _ _ _ _ hl hreg hann st' a' N B' n r (hr.step hst) (Nat.le_trans hN hst.size) (hok'.forget _) hm')
      obtain ⟨h1, B'', st'', h2, h3, h4, h5, h6⟩ := hp
      exact CodePost.from hB hst ⟨h1, B'', st'', h2, h3, h4.forget _, h5, h6⟩
    · simp at h
  · rename_i e0 ρ0 σ0 hne hx
    simp only [Option.some.injEq, Prod.mk.injEq] at h
    obtain ⟨rfl, rfl, rfl⟩ := h
    have hne' : e0 ≠ .normal := by
      rintro rfl
      exact hne rfl
    refine wpIn_mono (ih _ _ _ _ _ hx hregb hann st a N B n r hr hN (hok.forget _) hm) fun ex a' w' hp => ?_
    obtain ⟨rfl, B', st', h2, h3, h4, h5, h6⟩ := hp
    have : CodePost G E N B st e0 (AI.forget (E.an.exitOf b e0) ρ0) σ0 e0.to a' w' := ⟨rfl, B', st', h2, h3, h4.forget _, h5, h6⟩
    cases e0 with
    | normal => exact absurd rfl hne'
    | exit id => exact this
    | ret => exact this
  · simp at h

/-! ### A range over a function -/

theorem OK.grab (h : OK G an B0 st ρ σ tmps) {x : Nat} (h1 : ∀ p b, Has st.L ρ p b → b ≠ x) (h2 : x < st.w.heap.size) (h3 : ¬ st.S x) : OK G an (fun b => B0 b ∨ b = x) st ρ σ tmps :=
  ⟨h.size, h.slot, h.fits, h.lptr, fun p b hp => ⟨fun hb => by
    rcases hb with hb | hb
    · exact (h.priv p b hp).1 hb
    · exact h1 p b hp hb, (h.priv p b hp).2⟩, h.inj, fun b hb => by
    rcases hb with hb | rfl
    · exact h.base b hb
    · exact h2, fun b hs hb => by
    rcases hb with hb | rfl
    · exact h.out b hs hb
    · exact h3 hs, h.sr, h.larr⟩

theorem SR.setLoop {w w' : World} {ext : Nat → Nat} {ι : List Nat} {S : Nat → Prop} {SL : Nat → Nat → Option Nat} (h : SR G w ext ι S SL σ) {id b : Nat} {L L' : ALoop} {r : Loop}
    (hid : σ[id]? = some (.loop L)) (hb : ι[id]? = some b) (hh : w.heap[b]? = some (.loop r)) (ht : Turn w w' b) (hnew : ∀ ι', Grow w ext ι w' ext ι' → LoopOK w' ext ι' G L' b) :
    Grow w ext ι w' ext ι ∧ SR G w' ext ι S SL (σ.set id (.loop L')) := by
  have hg0 : Grow w ext ι w' ext ι := ht.grow (fun _ _ => rfl) (Nat.le_refl _) fun oo v ho hc => by simp [World.cell?, hh] at hc
  have hidlt := (List.getElem?_eq_some_iff.1 hid).1
  have hget : ∀ (id' : Nat) (o' : AObj), (σ.set id (.loop L'))[id']? = some o' → (id' ≠ id ∧ σ[id']? = some o') ∨ (id' = id ∧ o' = .loop L') := by
    intro id' o' ho'
    by_cases hi : id' = id
    · subst hi; rw [List.getElem?_set_self hidlt] at ho'; simp at ho'; exact .inr ⟨rfl, ho'.symm⟩
    · rw [List.getElem?_set_ne (Ne.symm hi)] at ho'; exact .inl ⟨hi, ho'⟩
  have hne : ∀ id' x, id' ≠ id → ι[id']? = some x → x ≠ b := by
    intro id' x hi hx hxb
    subst hxb
    exact hi ((List.getElem?_inj (List.getElem?_eq_some_iff.1 hx).1 h.nodup).1 (hx.trans hb.symm))
  refine ⟨hg0, ⟨by simp [h.len], h.nodup, fun id' o' x ho' hx => ?_, h.inS, fun id' o' i x ho' hi hx => ?_, fun id1 o1 i1 id2 o2 i2 x h1 hi1 hx1 h2 hi2 hx2 => ?_, fun x hx => by rw [ht.size]; exact h.small x hx, fun x hx => h.fresh x (by rw [← ht.size]; exact hx), fun g aa ha => (h.globals g aa ha).mono hg0⟩⟩
  · rcases hget id' o' ho' with ⟨hi, ho'⟩ | ⟨rfl, rfl⟩
    · have hxb := hne id' x hi hx
      exact (h.obj id' o' x ho' hx).keep hg0 ⟨ht.blk x hxb, rfl⟩ fun i hi' c hc => by
        have := (h.ownS id' o' i c ho' hi' hc).2
        exact ⟨ht.blk c (by rintro rfl; exact this (List.mem_of_getElem? hb)), rfl⟩
    · have hxb : x = b := by rw [hb] at hx; simpa using hx.symm
      subst hxb
      exact hnew ι hg0
  · rcases hget id' o' ho' with ⟨hj, ho'⟩ | ⟨rfl, rfl⟩
    · exact h.ownS id' o' i x ho' hi hx
    · simp [AObj.ows] at hi
  · rcases hget id1 o1 h1 with ⟨hj1, q1⟩ | ⟨h1e, rfl⟩
    · rcases hget id2 o2 h2 with ⟨hj2, q2⟩ | ⟨h2e, rfl⟩
      · exact h.inj id1 o1 i1 id2 o2 i2 x q1 hi1 hx1 q2 hi2 hx2
      · simp [AObj.ows] at hi2
    · simp [AObj.ows] at hi1

theorem OK.setLoop {w' : World} {id b : Nat} {L L' : ALoop} {r : Loop} (h : OK G an B0 st ρ σ tmps)
    (hid : σ[id]? = some (.loop L)) (hb : st.ι[id]? = some b) (hh : st.w.heap[b]? = some (.loop r)) (ht : Turn st.w w' b) (hnew : ∀ ι', Grow st.w st.ext st.ι w' st.ext ι' → LoopOK w' st.ext ι' G L' b) :
    OK G an B0 { st with w := w' } ρ (σ.set id (.loop L')) tmps ∧ Step B0 st { st with w := w' } := by
  obtain ⟨hg0, hsr⟩ := h.sr.setLoop hid hb hh ht hnew
  have hSb : st.S b := h.sr.inS b (List.mem_of_getElem? hb)
  refine ⟨⟨h.size, fun t => ?_, h.fits, h.lptr, fun p x hp => ?_, h.inj, fun x hx => by simpa [ht.size] using h.base x hx, h.out, hsr, h.larr⟩, ⟨hg0, by simp [ht.size], fun x hx => ⟨ht.blk x ?_, rfl⟩, ht.os, ht.tape, ht.output⟩⟩
  · exact h.slotTurn hg0 ht (fun _ _ => rfl) fun p _ hp => (h.priv p b hp).2.2 hSb
  · have := h.priv p x hp
    exact ⟨this.1, by simpa [ht.size] using this.2.1, this.2.2⟩
  · rintro rfl; exact h.out _ hSb hx

theorem Turn.putObj (w : World) (b : Nat) (o : Obj) : Turn w (w.putObj b o) b := ⟨by simp, fun _ h => World.putObj_heap_other h, rfl, rfl, rfl⟩

theorem LoopOK.set {w : World} {ext : Nat → Nat} {ι : List Nat} {L : ALoop} {b : Nat} (h : LoopOK w ext ι G L b) (s : LoopState) (p : Option Code) :
    ∃ r, w.heap[b]? = some (.loop r) ∧ r.state = L.state ∧ r.pending = L.pending ∧ ∀ ι', Grow w ext ι (w.putObj b (.loop { r with state := s, pending := p })) ext ι' →
      LoopOK (w.putObj b (.loop { r with state := s, pending := p })) ext ι' G { L with state := s, pending := p } b := by
  obtain ⟨tmps, bd, an, fn, h1, h2, h3, h4, h4', h6, h5⟩ := h.ex
  refine ⟨_, h1, rfl, rfl, fun ι' hg => ⟨tmps, bd, an, fn, ?_, h2, h3, h4, h4', h6, fun t => ⟨(h5 t).1, (h5 t).2.1, (h5 t).2.2.1, (h5 t).2.2.2.1, fun v ow hv => ((h5 t).2.2.2.2 v ow hv).mono hg⟩⟩⟩
  exact World.putObj_heap_same (Array.getElem?_eq_some_iff.1 h1).1

theorem round_slot {w' : World} {ext' : Nat → Nat} {ι' : List Nat} (h : OK G an B0 st ρ σ tmps) (hg : Grow st.w st.ext st.ι w' ext' ι') (t : Nat) :
    (roundEnv ρ t).ows = [] ∧ (roundEnv ρ t).isLoc = false ∧ (∀ s off, roundEnv ρ t ≠ .lptr s off ∧ roundEnv ρ t ≠ .larr s off) ∧ (roundEnv ρ t ≠ .none → fitsSlot an t (roundEnv ρ t) = true) ∧ ∀ v ow, roundEnv ρ t = .val v ow → Rep w' ext' ι' v (tmps.getD t undef) := by
  cases hρ : ρ t with
  | val v ow =>
    have e : roundEnv ρ t = .val v [] := by unfold roundEnv; rw [hρ]
    have hsl := h.slot t
    have hfit := h.fits t (by rw [hρ]; simp)
    rw [hρ] at hsl hfit
    rw [e]
    refine ⟨rfl, rfl, by simp, fun _ => hfit, fun v' ow' hv => ?_⟩
    cases hv
    exact hsl.1.mono hg
  | none =>
    have e : roundEnv ρ t = .none := by unfold roundEnv; rw [hρ]
    rw [e]; exact ⟨rfl, rfl, by simp, by simp, by simp⟩
  | loc cs ow =>
    have e : roundEnv ρ t = .none := by unfold roundEnv; rw [hρ]
    rw [e]; exact ⟨rfl, rfl, by simp, by simp, by simp⟩
  | lptr s off =>
    have e : roundEnv ρ t = .none := by unfold roundEnv; rw [hρ]
    rw [e]; exact ⟨rfl, rfl, by simp, by simp, by simp⟩
  | arr sz es =>
    have e : roundEnv ρ t = .none := by unfold roundEnv; rw [hρ]
    rw [e]; exact ⟨rfl, rfl, by simp, by simp, by simp⟩
  | larr s off =>
    have e : roundEnv ρ t = .none := by unfold roundEnv; rw [hρ]
    rw [e]; exact ⟨rfl, rfl, by simp, by simp, by simp⟩

theorem OK.grabs (h : OK G an B0 st ρ σ tmps) {md : List Nat} (h1 : ∀ x ∈ md, (∀ p, ¬ Has st.L ρ p x) ∧ x < st.w.heap.size ∧ ¬ st.S x) : OK G an (fun b => B0 b ∨ b ∈ md) st ρ σ tmps :=
  ⟨h.size, h.slot, h.fits, h.lptr, fun p b hp => ⟨fun hb => by
    rcases hb with hb | hb
    · exact (h.priv p b hp).1 hb
    · exact (h1 b hb).1 p hp, (h.priv p b hp).2⟩, h.inj, fun b hb => by
    rcases hb with hb | hb
    · exact h.base b hb
    · exact (h1 b hb).2.1, fun b hs hb => by
    rcases hb with hb | hb
    · exact h.out b hs hb
    · exact (h1 b hb).2.2 hs, h.sr, h.larr⟩

/-- What a range over a function's call leaves, once its record is laid. -/
theorem range_core {k : Nat} (hO : OrSound G k O) {ps : Array Tmp} {assign body : Code} {e : XExit} {g : FuncId} {first cap : List AV} {fs cs : Array Value} {v : AV} {σ2 : Sig} {L' : ALoop} {N n : Nat} {B : Nat → Prop} {r : Option Nat}
    {w2 : World} {l bd : Nat} {md : List Nat} {fn : FuncId} (hreg : regionsOK G E.an assign = true ∧ regionsOK G E.an body = true) (hann : G.ann E.fn = some E.an)
    (hN : N ≤ st.w.heap.size) (hok : OK G E.an B st ρ σ a.tmps) (hm : Marks N B st a.defers)
    (hps : (ps.toList.all fun t => decide (t < E.an.ntmps) && !E.an.loc.contains t) = true)
    (hOc : O (.call g (first ++ [.yield σ.length] ++ cap) (σ ++ [.loop { fn := E.fn, env := roundEnv ρ, params := ps, assign := assign, body := body, state := .ready, pending := none }])) = some (.ret v σ2))
    (hL' : σ2[σ.length]? = some (.loop L')) (hbusy : ¬ L'.state = .busy)
    (h : (match L'.pending with
          | none => some (XExit.normal, ρ, σ2.set σ.length (.loop { L' with state := .exhausted }))
          | some .ret => some (.ret, ρ, σ2.set σ.length (.loop { L' with state := .exhausted }))
          | some (.exit id) => some (.exit id, ρ, σ2.set σ.length (.loop { L' with state := .exhausted }))
          | _ => none) = some (e, ρ', σ'))
    (hr1 : Reps st.w st.ext st.ι first fs.toList) (hr2 : Reps st.w st.ext st.ι cap cs.toList) (hnew : Newer st.w w2) (hl0 : st.w.heap.size ≤ l) (hl1 : l < w2.heap.size)
    (hrec : w2.heap[l]? = some (.loop { state := .ready, pending := none, fn, tmps := a.tmps, params := ps, assign, body, defers := bd }))
    (hmd1 : md.Nodup) (hmd : ∀ x ∈ md, st.w.heap.size ≤ x ∧ x < w2.heap.size ∧ x ≠ l ∧ w2.heap[x]? = some (.deferred (some []))) :
    CallsIn (fen r) (n - 1) G.P g (fs ++ #[Value.func (.yield l) #[] #[]] ++ cs) w2 (rangePost (fen r) n G.P l (CodePost G E N B st e ρ' σ') { a with defers := md.map (fun b => { target := .collected b, args := #[] }) ++ a.defers }) := by
  obtain ⟨hbody, hcalls⟩ := hO.call _ _ _ _ _ hOc
  have hg0 := hnew.grow hok.sr (ext' := st.ext) (fun _ _ => rfl)
  have hg : Grow st.w st.ext st.ι w2 st.ext (st.ι ++ [l]) := ⟨hg0.cell, hg0.ext, List.prefix_append _ _⟩
  obtain ⟨st1, e1, e2, e3, eS, eL, hok1, hst1⟩ := hok.add (ext' := st.ext) (b := l) (o := .loop { fn := E.fn, env := roundEnv ρ, params := ps, assign := assign, body := body, state := .ready, pending := none })
    hnew (fun _ _ => rfl) (fun b hb => hok.sr.fresh b (Nat.le_trans hnew.size hb)) (by omega) (by omega)
    (by
      refine ⟨a.tmps, bd, E.an, fn, hrec, hann, hok.size, fun t ht => ?_, hreg.1, hreg.2, fun t => ?_⟩
      · rw [List.all_eq_true] at hps
        have := hps t ht
        simpa using this
      · exact round_slot hok hg t)
  have hno : ∀ x ∈ md, ∀ p, ¬ Has st1.L ρ p x := by
    intro x hx p hp
    rw [eL] at hp
    have := (hok.priv p x hp).2.1
    have := (hmd x hx).1
    omega
  have hok1' := hok1.grabs (md := md) (fun x hx => ⟨hno x hx, by rw [e1]; exact (hmd x hx).2.1, by
    rw [eS]; intro hS
    have h0 := hmd x hx
    rcases hS with hS | hS
    · have := hok.sr.small _ hS; omega
    · exact h0.2.2.1 hS⟩)
  have hι : st1.ι[σ.length]? = some l := by rw [e3, ← hok.sr.len]; simp
  have hreps : Reps st1.w st1.ext st1.ι (first ++ [.yield σ.length] ++ cap) (fs ++ #[Value.func (.yield l) #[] #[]] ++ cs).toList := by
    have := ((hr1.mono hst1.grow).append (.cons _ _ _ _ (.yield _ _ hι) .nil)).append (hr2.mono hst1.grow)
    simpa using this
  have hcall := hcalls st1 (fs ++ #[Value.func (.yield l) #[] #[]] ++ cs) (n - 1) hok1.sr hreps
  rw [e1] at hcall
  refine CallsIn.mono (F := fen r) hcall fun en w3 hen => ?_
  cases en with
  | panicked _ => exact hen.elim
  | outgrown => exact hen.elim
  | returned c =>
  obtain ⟨st2, rfl, q1, q2, q3, q4⟩ := hen
  obtain ⟨hok2, hst2⟩ := hok1'.called q1 q3 q4
  have hι2 : st2.ι[σ.length]? = some l := pre_get q3.grow.pre hι
  have hlo := q1.obj σ.length (.loop L') _ hL' hι2
  obtain ⟨rr, r1, r2, r3, r4⟩ := LoopOK.set hlo .exhausted L'.pending
  have hend := run_endLoop (P := G.P) r1 (by rw [r2]; exact hbusy)
  have hrr : ({ rr with state := .exhausted } : Loop) = { rr with state := .exhausted, pending := L'.pending } := by rw [← r3]
  rw [hrr, r3] at hend
  obtain ⟨hok3, hst3⟩ := hok2.setLoop hL' hι2 r1 (Turn.putObj st2.w l (.loop { rr with state := .exhausted, pending := L'.pending })) r4
  refine ⟨L'.pending, _, hend, ?_⟩
  have hBB : ∀ b, B b → B b ∨ b ∈ md := fun b hb => .inl hb
  have hstep := hst1.trans ((hst2.trans hst3).weaken hBB)
  have hmark : Marks N (fun b => B b ∨ b ∈ md) { st2 with w := st2.w.putObj l (.loop { rr with state := .exhausted, pending := L'.pending }), L := st1.L } (md.map (fun b => { target := .collected b, args := #[] }) ++ a.defers) := by
    obtain ⟨ms, m1, m2, m3⟩ := hm
    refine ⟨md ++ ms, by rw [m1]; simp, List.nodup_append.2 ⟨hmd1, m2, fun x hx y hy hxy => ?_⟩, fun b hb => ?_⟩
    · subst hxy
      have h1 := hok.base _ (m3 _ hy).2.1
      have h2 := (hmd _ hx).1
      omega
    · rcases List.mem_append.1 hb with hb | hb
      · refine ⟨Nat.le_trans hN (hmd b hb).1, .inr hb, ?_⟩
        have := ((hst2.trans hst3).blk b (.inr hb)).1
        rw [this, e1]; exact (hmd b hb).2.2.2
      · refine ⟨(m3 b hb).1, .inl (m3 b hb).2.1, ?_⟩
        have := (hstep.blk b (m3 b hb).2.1).1
        rw [this]; exact (m3 b hb).2.2
  have fin : ∀ e', CodePost G E N B st e' ρ (σ2.set σ.length (.loop { L' with state := .exhausted })) e'.to { a with defers := md.map (fun b => { target := .collected b, args := #[] }) ++ a.defers } (st2.w.putObj l (.loop { rr with state := .exhausted, pending := L'.pending })) :=
    fun e' => ⟨rfl, _, { st2 with w := st2.w.putObj l (.loop { rr with state := .exhausted, pending := L'.pending }), L := st1.L }, rfl, hBB, hok3, hstep, hmark⟩
  split at h
  · rename_i hp
    simp only [Option.some.injEq, Prod.mk.injEq] at h
    obtain ⟨rfl, rfl, rfl⟩ := h
    simp only [hp]
    exact hp ▸ fin .normal
  · rename_i hp
    simp only [Option.some.injEq, Prod.mk.injEq] at h
    obtain ⟨rfl, rfl, rfl⟩ := h
    simp only [hp]
    exact wpIn_ret (hp ▸ fin .ret)
  · rename_i id hp
    simp only [Option.some.injEq, Prod.mk.injEq] at h
    obtain ⟨rfl, rfl, rfl⟩ := h
    simp only [hp]
    exact wpIn_exit (hp ▸ fin (.exit id))
  · simp at h

theorem range_sound {k : Nat} (hO : OrSound G k O) {f : Operand} {ps : Array Tmp} {assign body : Code} {e : XExit} (h : execC G E O (.rangeFunc f ps assign body) ρ σ = some (e, ρ', σ')) :
    CodeOK G E (.rangeFunc f ps assign body) ρ σ e ρ' σ' := by
  intro hreg hann st a N B n r hr hN hok hm
  simp only [regionsOK, Bool.and_eq_true] at hreg
  simp only [execC] at h
  split at h
  · rename_i g first cap hf
    have hrep := opv_rep hok rfl (fun _ _ => rfl) hf
    split at h
    · simp at h
    · rename_i hround
      split at h
      · simp at h
      · rename_i hps
        have hps : (ps.toList.all fun t => decide (t < E.an.ntmps) && !E.an.loc.contains t) = true := eq_true_of_ne_false hps
        split at h
        · rename_i v σ2 hcall
          have hOc : O (.call g (first ++ [.yield σ.length] ++ cap) (σ ++ [.loop { fn := E.fn, env := roundEnv ρ, params := ps, assign := assign, body := body, state := .ready, pending := none }])) = some (.ret v σ2) := by
            unfold retOf at hcall
            split at hcall
            · rename_i e'; simp at hcall; obtain ⟨rfl, rfl⟩ := hcall; exact e'
            · simp at hcall
          split at h
          · rename_i L' hL'
            split at h
            · simp at h
            · rename_i hbusy
              obtain ⟨hbody, _⟩ := hO.call _ _ _ _ _ hOc
              generalize hev : a.eval f = ev at hrep
              cases hrep with
              | func _ _ _ fs cs hr1 hr2 =>
              have hmap : ∀ l, (#[Operand.const (Value.func (.yield l) #[] #[])].map a.eval) = #[Value.func (.yield l) #[] #[]] := by intro l; simp [Act.eval]
              have fin : ∀ fn, ∃ (l : Nat) (w2 : World) (md : List Nat), (Instr.enterLoop fn a.tmps ps assign body r).run G.P st.w = .ok (l, md.map (fun b => { target := .collected b, args := #[] })) w2 ∧
                  CallsIn (fen r) (n - 1) G.P g (fs ++ #[Value.func (.yield l) #[] #[]] ++ cs) w2 (rangePost (fen r) n G.P l (CodePost G E N B st e ρ' σ') { a with defers := md.map (fun b => { target := .collected b, args := #[] }) ++ a.defers }) := by
                intro fn
                unfold RoundOK at hr
                cases hro : E.round with
                | none =>
                  rw [hro] at hr
                  subst hr
                  obtain ⟨w2, hw2⟩ : ∃ w2, w2 = (st.w.alloc (.deferred (some []))).alloc (.loop { state := .ready, pending := none, fn, tmps := a.tmps, params := ps, assign, body, defers := st.w.heap.size }) := ⟨_, rfl⟩
                  have hnew : Newer st.w w2 := by rw [hw2]; exact (Newer.alloc _ _).trans (Newer.alloc _ _)
                  have hsz : w2.heap.size = st.w.heap.size + 2 := by rw [hw2]; simp
                  have hb0 : w2.heap[st.w.heap.size]? = some (.deferred (some [])) := by
                    rw [hw2, heap_alloc_old _ _ (by simp)]; exact heap_alloc_new _ _
                  have hb1 : w2.heap[st.w.heap.size + 1]? = some (.loop { state := .ready, pending := none, fn, tmps := a.tmps, params := ps, assign, body, defers := st.w.heap.size }) := by
                    have := heap_alloc_new (st.w.alloc (.deferred (some []))) (.loop { state := .ready, pending := none, fn, tmps := a.tmps, params := ps, assign, body, defers := st.w.heap.size })
                    rw [hw2]; simpa using this
                  refine ⟨st.w.heap.size + 1, w2, [st.w.heap.size], by rw [hw2]; exact run_enterLoop_outer _ _ _ _ _, ?_⟩
                  exact range_core hO hreg hann hN hok hm hps hOc hL' hbusy h hr1 hr2 hnew (by omega) (by omega) hb1 (by simp) (fun x hx => by
                    simp at hx; subst hx
                    exact ⟨Nat.le_refl _, by omega, by omega, hb0⟩)
                | some l0 =>
                  rw [hro] at hr
                  obtain ⟨b0, rfl, hb0⟩ := hr
                  have hl0 : ∃ L0, σ[l0]? = some (.loop L0) := by
                    cases hσ : σ[l0]? with
                    | none => exact absurd (by simp [roundOk, hro, hσ]) hround
                    | some o =>
                      cases o with
                      | box cs ow => exact absurd (by simp [roundOk, hro, hσ]) hround
                      | loop L0 => exact ⟨L0, rfl⟩
                  obtain ⟨L0, hL0⟩ := hl0
                  obtain ⟨tmps0, bd0, an0, fn0, hh0, _⟩ := (hok.sr.obj l0 (.loop L0) b0 hL0 hb0).ex
                  obtain ⟨w2, hw2⟩ : ∃ w2, w2 = st.w.alloc (.loop { state := .ready, pending := none, fn, tmps := a.tmps, params := ps, assign, body, defers := bd0 }) := ⟨_, rfl⟩
                  have hnew : Newer st.w w2 := by rw [hw2]; exact Newer.alloc _ _
                  have hsz : w2.heap.size = st.w.heap.size + 1 := by rw [hw2]; simp
                  have hb1 : w2.heap[st.w.heap.size]? = some (.loop { state := .ready, pending := none, fn, tmps := a.tmps, params := ps, assign, body, defers := bd0 }) := by
                    rw [hw2]; exact heap_alloc_new _ _
                  refine ⟨st.w.heap.size, w2, [], by rw [hw2]; exact run_enterLoop_inner hh0 _ _ _ _ _, ?_⟩
                  exact range_core hO hreg hann hN hok hm hps hOc hL' hbusy h hr1 hr2 hnew (Nat.le_refl _) (by omega) hb1 (by simp) (fun x hx => by cases hx)
              refine wpIn_rangeFunc fun fn _ => ?_
              obtain ⟨l, w2, md, g1, g3⟩ := fin fn
              refine ⟨l, md.map (fun b => { target := .collected b, args := #[] }), w2, { target := .fn (.func g) cs, args := fs ++ #[Value.func (.yield l) #[] #[]] }, w2, g, fs ++ #[Value.func (.yield l) #[] #[]] ++ cs, w2, g1, ?_, fun _ _ => trivial, ?_, fun hd => by simp [fen, Fence.wide] at hd, g3⟩
              · simp only [resolve, rangeCall, hmap, hev, Deferred.ofValue, Sem.run_pure]
              · simp only [invoke]; exact callFunc_run hbody _ _
          · simp at h
        · simp at h
  · simp at h

theorem code_sound {k : Nat} (hP : PrgOK G) (hO : OrSound G k O) : ∀ (c : Code) (ρ : Env) (σ : Sig) (e : XExit) (ρ' : Env) (σ' : Sig), execC G E O c ρ σ = some (e, ρ', σ') → CodeOK G E c ρ σ e ρ' σ' := by
  intro c
  induction c with
  | skip =>
    intro ρ σ e ρ' σ' h hreg hann st a N B n r hr hN hok hm
    simp only [execC, Option.some.injEq, Prod.mk.injEq] at h
    obtain ⟨rfl, rfl, rfl⟩ := h
    exact wpIn_skip (CodePost.here hok hm)
  | ret =>
    intro ρ σ e ρ' σ' h hreg hann st a N B n r hr hN hok hm
    simp only [execC, Option.some.injEq, Prod.mk.injEq] at h
    obtain ⟨rfl, rfl, rfl⟩ := h
    exact wpIn_ret (CodePost.here hok hm)
  | exit id =>
    intro ρ σ e ρ' σ' h hreg hann st a N B n r hr hN hok hm
    simp only [execC, Option.some.injEq, Prod.mk.injEq] at h
    obtain ⟨rfl, rfl, rfl⟩ := h
    exact wpIn_exit (CodePost.here hok hm)
  | seq x y ihx ihy =>
    intro ρ σ e ρ' σ' h hreg hann st a N B n r hr hN hok hm
    simp only [regionsOK, Bool.and_eq_true] at hreg
    simp only [execC] at h
    refine wpIn_seq ?_
    split at h
    · rename_i ρ1 σ1 h1
      refine wpIn_mono (ihx _ _ _ _ _ h1 hreg.1 hann st a N B n r hr hN hok hm) fun ex a' w' hp => ?_
      obtain ⟨rfl, B', st', rfl, hB, hok', hst, hm'⟩ := hp
      show y.wpIn _ _ _ _ a' st'.w
      exact wpIn_mono (ihy _ _ _ _ _ h hreg.2 hann st' a' N B' n r (hr.step hst) (Nat.le_trans hN hst.size) hok' hm') fun ex a'' w'' hp => CodePost.from hB hst hp
    · rename_i r' hne
      have hne' : e ≠ .normal := by rintro rfl; exact hne _ _ h
      refine wpIn_mono (ihx _ _ _ _ _ h hreg.1 hann st a N B n r hr hN hok hm) fun ex a' w' hp => ?_
      obtain ⟨rfl, hp⟩ := hp
      have : CodePost G E N B st e ρ' σ' e.to a' w' := ⟨rfl, hp⟩
      cases e with
      | normal => exact absurd rfl hne'
      | exit id => exact this
      | ret => exact this
  | cond c x y ihx ihy =>
    intro ρ σ e ρ' σ' h hreg hann st a N B n r hr hN hok hm
    simp only [regionsOK, Bool.and_eq_true] at hreg
    simp only [execC] at h
    split at h
    · rename_i hc
      exact wpIn_cond_true (rep_bool_inv (opv_rep hok rfl (fun _ _ => rfl) hc)) (ihx _ _ _ _ _ h hreg.1 hann st a N B n r hr hN hok hm)
    · rename_i hc
      exact wpIn_cond_false (rep_bool_inv (opv_rep hok rfl (fun _ _ => rfl) hc)) (ihy _ _ _ _ _ h hreg.2 hann st a N B n r hr hN hok hm)
    · simp at h
  | block id b ih =>
    intro ρ σ e ρ' σ' h hreg hann st a N B n r hr hN hok hm
    simp only [regionsOK] at hreg
    simp only [execC] at h
    refine wpIn_block ?_
    split at h
    · rename_i id' ρ1 σ1 h1
      simp only [Option.some.injEq, Prod.mk.injEq] at h
      obtain ⟨rfl, rfl, rfl⟩ := h
      refine wpIn_mono (ih _ _ _ _ _ h1 hreg hann st a N B n r hr hN hok hm) fun ex a' w' hp => ?_
      obtain ⟨rfl, hp⟩ := hp
      show if id' = id then _ else _
      split
      · exact ⟨rfl, hp⟩
      · exact ⟨rfl, hp⟩
    · rename_i r' hne
      refine wpIn_mono (ih _ _ _ _ _ h hreg hann st a N B n r hr hN hok hm) fun ex a' w' hp => ?_
      obtain ⟨rfl, hp⟩ := hp
      have : CodePost G E N B st e ρ' σ' e.to a' w' := ⟨rfl, hp⟩
      cases e with
      | normal => exact this
      | exit id' => exact absurd h (hne id' _ _)
      | ret => exact this
  | loop b ih =>
    intro ρ σ e ρ' σ' h hreg hann st a N B n r hr hN hok hm
    exact loop_of_Wn (loop_sound hO ih h hreg hann st a N B n r hr hN hok hm)
  | region id ops draw =>
    intro ρ σ e ρ' σ' h hreg hann st a N B n r hr hN hok hm
    simp only [execC] at h
    split at h
    · rename_i ρ1 σ1 h1
      simp only [Option.some.injEq, Prod.mk.injEq] at h
      obtain ⟨rfl, rfl, rfl⟩ := h
      have hfin : ∀ a' st', OK G E.an B st' ρ1 σ1 a'.tmps → Step B st st' → a'.defers = a.defers → CodePost G E N B st .normal (AI.forget (E.an.outOf id) ρ1) σ1 .normal a' st'.w :=
        fun a' st' hok' hst' hd' => ⟨rfl, B, st', rfl, fun _ h => h, hok'.forget _, hst', by rw [hd']; exact hm.step (fun _ h => h) hst'⟩
      unfold aregion at h1
      split at h1
      · rename_i hpen
        simp only [Bool.and_eq_true] at hpen
        obtain ⟨rfl, hpen⟩ := hpen
        split at h1
        · rename_i front A I S Bo hparts
          split at h1
          · rename_i ρ2 σ2 hfront
            split at h1
            · rename_i ups hups
              simp only [regionsOK, Bool.not_true, Bool.false_or, hpen, if_true] at hreg
              obtain ⟨hok', hst'⟩ := hok.newer (ext' := st.ext) (Newer.drew st.w) (fun _ _ => rfl) (fun b hb => hok.sr.fresh b hb)
              refine wpIn_region_any hP.mixed ?_
              exact pen_sound (st := { st with w := st.w.drew }) (ds := a.defers) hP hO r n hreg hparts hfront hups h1 hok' hst' rfl hfin
            · simp at h1
          · simp at h1
        · simp at h1
      · rename_i hpen
        rw [← aops_range] at h1
        cases draw with
        | false => exact wpIn_region (ops_sound hP hO _ n _ _ _ st a h1 hok (Step.refl _ _) rfl hfin)
        | true =>
          have hpen : E.an.pen.contains id = false := by simpa using hpen
          simp only [regionsOK, Bool.not_true, Bool.false_or, hpen, Bool.false_eq_true, if_false] at hreg
          obtain ⟨hok', hst'⟩ := hok.newer (ext' := st.ext) (Newer.drew st.w) (fun _ _ => rfl) (fun b hb => hok.sr.fresh b hb)
          refine wpIn_region_any hP.mixed ?_
          refine any_sound hP hO r n hreg ops.size (List.range ops.size) _ _ _ { st with w := st.w.drew } a (by simp) List.pairwise_lt_range (by simp) (fun i => ?_) (fun j hj => ?_) h1 hok' hst' rfl hfin
          · rw [List.mem_range]
            constructor
            · intro hi; exact ⟨hi, by simp [Array.getD_eq_getD_getElem?, hi]⟩
            · exact fun hi => hi.1
          · exfalso
            unfold Listed at hj
            rw [Array.getD_eq_getD_getElem?, Array.getElem?_replicate] at hj
            split at hj <;> simp at hj
    · simp at h
  | rangeFunc f ps assign body _ _ =>
    intro ρ σ e ρ' σ' h
    exact range_sound hO h
  | _ =>
    intro ρ σ e ρ' σ' h
    simp [execC] at h

end Go.AI
