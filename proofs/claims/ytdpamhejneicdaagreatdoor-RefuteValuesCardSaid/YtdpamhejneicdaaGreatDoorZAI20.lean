/- The abstract machine: the evaluator is sound at each depth. -/
import Derived.Test.YtdpamhejneicdaaGreatDoorZAI19
namespace Go.AI
set_option linter.unusedVariables false
set_option linter.unusedSimpArgs false
open Go

variable {G : Prg} {an : Ann} {E : EE} {B0 B1 : Nat → Prop} {st st0 : St} {ρ ρm ρ' : Env} {σ σ' : Sig} {a : Act} {o : Oper} {tmps : Array Value} {O : Task → Option Res}

theorem OK.less (h : OK G an B0 st ρ σ tmps) (hB : ∀ b, B1 b → B0 b) : OK G an B1 st ρ σ tmps :=
  ⟨h.size, h.slot, h.fits, h.lptr, fun p b hp => ⟨fun hb => (h.priv p b hp).1 (hB b hb), (h.priv p b hp).2⟩, h.inj, fun b hb => h.base b (hB b hb), fun b hs hb => h.out b hs (hB b hb), h.sr, h.larr⟩

/-- The marks of a frame that leaves. -/
theorem shut_all {F : Fence} {n : Nat} {fn : Func} {R : Ending → World → Prop} : ∀ (ms : List Nat) (st : St), OK G an B1 st ρ σ tmps → ms.Nodup →
    (∀ b ∈ ms, ¬ B1 b ∧ b < st.w.heap.size ∧ ¬ st.S b ∧ (∀ p, ¬ Has st.L ρ p b) ∧ st.w.heap[b]? = some (.deferred (some []))) →
    (∀ st', OK G an B1 st' ρ σ tmps → Step B1 st st' → ∃ v, (results fn tmps).run G.P st'.w = .ok v st'.w ∧ R (.returned v) st'.w) →
    LeavesInM F n G.P fn tmps R (ms.map fun b => { target := .collected b, args := #[] }) .returning st.w := by
  intro ms
  induction ms with
  | nil =>
    intro st hok _ _ hend
    obtain ⟨v, h1, h2⟩ := hend st hok (Step.refl _ _)
    exact ⟨v, h1, h2⟩
  | cons b ms ih =>
    intro st hok hnd hms hend
    obtain ⟨hb, hnd⟩ := List.nodup_cons.1 hnd
    obtain ⟨k1, k2, k3, k4, k5⟩ := hms b (by simp)
    refine ⟨by simp, .inl ⟨b, _, rfl, run_takeDeferred k5, ?_⟩⟩
    have ht := Turn.putObj st.w b (.deferred none)
    have hg : Grow st.w st.ext st.ι (st.w.putObj b (.deferred none)) st.ext st.ι := ht.grow (fun _ _ => rfl) (Nat.le_refl _) fun oo v _ hc => by simp [World.cell?, k5] at hc
    obtain ⟨hok', hst⟩ := hok.turn hg ht (fun _ _ => rfl) k4 ⟨k1, k2, k3⟩
    refine ih { st with w := st.w.putObj b (.deferred none) } hok' hnd (fun c hc => ?_) fun st' h1 h2 => hend st' h1 (hst.trans h2)
    obtain ⟨q1, q2, q3, q4, q5⟩ := hms c (List.mem_cons_of_mem _ hc)
    refine ⟨q1, by simpa using q2, q3, q4, ?_⟩
    have hne : c ≠ b := by rintro rfl; exact hb hc
    rw [ht.blk c hne]; exact q5

/-- Functions that hand back their slice do so. -/
def PrimOK (G : Prg) : Prop := ∀ g, G.prim.contains g = true → Body G.P g ∧ ∀ (sz : Nat) (es : List AV) (σ : Sig) (st : St) (vs : Array Value) (n : Nat), sz = 1 → es.length ≤ 4294967296 →
  SR G st.w st.ext st.ι st.S st.SL σ → Reps st.w st.ext st.ι [.slice sz es] vs.toList → CallsIn Fence.wide n G.P g vs st.w (CPost G st (.slice sz es) σ)

theorem call_sound {k : Nat} (hP : PrgOK G) (hPr : PrimOK G) (hB : OBel O) (hO : OrSound G k O) {g : FuncId} {args : List AV} {v : AV} (h : stepT G O (.call g args σ) = some (.ret v σ')) :
    Body G.P g ∧ ∀ (st : St) (vs : Array Value) (n : Nat), SR G st.w st.ext st.ι st.S st.SL σ → Reps st.w st.ext st.ι args vs.toList → CallsIn Fence.wide n G.P g vs st.w (CPost G st v σ') := by
  simp only [stepT] at h
  split at h
  · rename_i hg
    rw [Option.map_eq_some_iff] at h
    obtain ⟨u, hu, h⟩ := h
    simp only [Res.ret.injEq] at h
    obtain ⟨rfl, rfl⟩ := h
    unfold primOf at hu
    split at hu
    · rename_i sz es
      split at hu
      · rename_i hc
        simp at hu; subst hu
        exact ⟨(hPr g hg).1, fun st vs n hsr hreps => (hPr g hg).2 sz es σ st vs n hc.1 hc.2 hsr hreps⟩
      · simp at hu
    · simp at hu
  split at h
  · rename_i an fn hann hfn
    split at h
    · rename_i c hbody
      split at h
      · rename_i hlen
        refine ⟨⟨fn, c, hfn, hbody, hP.name _ _ _ hann hfn⟩, fun st vs n hsr hreps => ?_⟩
        split at h
        · simp at h
        · rename_i e ρ1 σ1 hne hex
          split at h
          · rename_i rs hrs
            have hbel := (exec_bel hB _ _ _ _ _ _ hex (Nat.le_refl _)).2 σ.length (Nat.le_refl _) hsr.bel
            refine callsIn_of_wp_marks hfn hbody trivial ?_
            have hstart := start_ok (an := an) hsr hreps hlen
            have hsz := hP.size _ _ _ hann hfn
            have hcode := code_sound hP hO c _ _ _ _ _ hex (hP.reg _ _ _ _ hann hfn hbody) hann st { tmps := vs ++ Array.replicate (an.ntmps - vs.size) undef, defers := [] } st.w.heap.size (Fz st) n none rfl (Nat.le_refl _) hstart
              ⟨[], rfl, List.nodup_nil, by simp⟩
            rw [← hsz] at hcode
            refine wpIn_mono (F := Fence.wide) hcode fun ex a' w' hp => ?_
            obtain ⟨rfl, B', st1, rfl, hBB, hok, hst, ms, hms1, hms2, hms3⟩ := hp
            have hleave : LeavesInM Fence.wide n G.P fn a'.tmps (CPost G st v σ') a'.defers .returning st1.w := by
              rw [hms1]
              refine shut_all (an := an) (ρ := ρ1) (σ := σ1) (B1 := fun x => B' x ∧ x ∉ ms) ms st1 (hok.less fun b hb => hb.1) hms2 (fun b hb => ?_) fun st2 hok2 hst2 => ?_
              · obtain ⟨m1, m2, m3⟩ := hms3 b hb
                exact ⟨fun hx => hx.2 hb, hok.base b m2, fun hs => hok.out b hs m2, fun p hpp => (hok.priv p b hpp).1 m2, m3⟩
              · have hFz : ∀ x, Fz st x → B' x ∧ x ∉ ms := fun x hx => ⟨hBB x hx, fun hm => by
                  have := (hms3 x hm).1
                  have := hx.1
                  omega⟩
                obtain ⟨cv, hrun, hrep⟩ := results_run hok2 hrs
                refine ⟨cv, hrun, ?_⟩
                have hst' : Step (Fz st) st st2 := hst.trans (hst2.weaken hFz)
                have hout : ∀ b, st2.S b → ¬ Fz st b := fun b hs hf => hok2.out b hs (hFz b hf)
                split at h
                · simp only [Option.some.injEq, Res.ret.injEq] at h
                  obtain ⟨rfl, rfl⟩ := h
                  exact ⟨st2, rfl, hok2.sr, hrep, hst', hout⟩
                · split at h
                  · rename_i hflat
                    simp only [Option.some.injEq, Res.ret.injEq] at h
                    obtain ⟨rfl, rfl⟩ := h
                    refine ⟨{ st2 with ι := st2.ι.take σ.length }, rfl, hok2.sr.drop hP _ hbel, hrep.flatι _ hflat, ⟨⟨hst'.grow.cell, hst'.grow.ext, ?_⟩, hst'.size, hst'.blk, hst'.os, hst'.tape, hst'.output⟩, hout⟩
                    obtain ⟨t, ht⟩ := hst'.grow.pre
                    rw [← hsr.len, ← ht, List.take_left]
                    exact List.prefix_refl _
                  · simp at h
            cases e with
            | normal => exact hleave
            | ret => exact hleave
            | exit id => exact (hne id rfl).elim
          · simp at h
        · simp at h
      · simp at h
    · simp at h
  · simp at h

theorem params_ok {B : Nat → Prop} : ∀ (ps : List Tmp) (as : List AV) (cs : List Value) (st : St) (ρ : Env) (tmps : Array Value), Reps st.w st.ext st.ι as cs → OK G an B st ρ σ tmps → (∀ t ∈ ps, t < an.ntmps ∧ an.loc.contains t = false) →
    ∃ L, OK G an B { st with L := L } (apply ((ps.zip as).map fun (t, v) => (t, .val v [])) ρ) σ ((ps.zip cs).foldl (fun tmps (t, a) => tmps.setIfInBounds t a) tmps) := by
  intro ps
  induction ps with
  | nil => intro as cs st ρ tmps _ hok _; exact ⟨st.L, hok⟩
  | cons t ps ih =>
    intro as cs st ρ tmps hr hok hps
    cases hr with
    | nil => exact ⟨st.L, hok⟩
    | cons v c as cs h1 h2 =>
      obtain ⟨q1, q2⟩ := hps t (by simp)
      obtain ⟨L, hL⟩ := hok.putPlain q1 q2 h1
      obtain ⟨L', hL'⟩ := ih as cs { st with L := L } (upd ρ t (.val v [])) (tmps.setIfInBounds t c) h2 hL (fun t' ht' => hps t' (List.mem_cons_of_mem _ ht'))
      exact ⟨L', hL'⟩

theorem round_start {L : ALoop} {tmps : Array Value} {st : St} (hsr : SR G st.w st.ext st.ι st.S st.SL σ) (hsz : tmps.size = an.ntmps)
    (h : ∀ t, (L.env t).ows = [] ∧ (L.env t).isLoc = false ∧ (∀ s off, L.env t ≠ .lptr s off ∧ L.env t ≠ .larr s off) ∧ (L.env t ≠ .none → fitsSlot an t (L.env t) = true) ∧ ∀ v ow, L.env t = .val v ow → Rep st.w st.ext st.ι v (tmps.getD t undef)) :
    OK G an (Fz st) st L.env σ tmps := by
  have hno : ∀ p b, ¬ Has st.L L.env p b := by
    intro p b hp
    cases p with
    | box t => simp [Has, (h t).2.1] at hp
    | own t i => simp [Has, (h t).1] at hp
  refine ⟨hsz, fun t => ?_, fun t ht => (h t).2.2.2.1 ht, fun t s off ht => absurd ht ((h t).2.2.1 s off).1, fun p b hp => absurd hp (hno p b), fun p q b hp => absurd hp (hno p b), fun b hb => hb.1, fun b hs hb => hb.2 hs, hsr, fun t s n ht => absurd ht ((h t).2.2.1 s n).2⟩
  obtain ⟨h1, h2, h3, h4, h5⟩ := h t
  cases hρ : L.env t with
  | none => trivial
  | val v ow =>
    rw [hρ] at h1
    simp only [Slot.ows] at h1
    subst h1
    exact ⟨h5 v [] hρ, fun i hi => by cases hi⟩
  | loc cs ow => rw [hρ] at h2; cases h2
  | lptr s off => exact absurd hρ (h3 s off).1
  | arr sz es => rw [hρ] at h2; cases h2
  | larr s off => exact absurd hρ (h3 s off).2

theorem yield_sound {k : Nat} (hP : PrgOK G) (hO : OrSound G k O) {l : Nat} {args : List AV} {v : AV} (h : stepT G O (.yield l args σ) = some (.ret v σ'))
    (st : St) (vs : Array Value) (n b : Nat) (hsr : SR G st.w st.ext st.ι st.S st.SL σ) (hb : st.ι[l]? = some b) (hreps : Reps st.w st.ext st.ι args vs.toList) :
    ∃ r, st.w.heap[b]? = some (.loop r) ∧ vs.size = r.params.size ∧
      RoundIn Fence.wide n G.P b r.fn ((r.params.zip vs).foldl (fun tmps (t, a) => tmps.setIfInBounds t a) r.tmps) r.assign r.body st.w (CPost G st v σ') := by
  simp only [stepT] at h
  split at h
  · rename_i L hL
    split at h
    · rename_i an hann
      split at h
      · rename_i hready
        obtain ⟨hready, hargs⟩ := hready
        obtain ⟨tmps, bd, an', fn', hh, hann', htsz, hps, hreg1, hreg2, hslots⟩ := (hsr.obj l (.loop L) b hL hb).ex
        rw [hann] at hann'
        cases hann'
        have hvl := hreps.length
        refine ⟨_, hh, by simp at hvl ⊢; omega, ?_⟩
        split at h
        · rename_i ρ1 σ1 hassign
          split at h
          · rename_i L1 hL1
            split at h
            · rename_i hready1
              split at h
              · rename_i e ρ2 σ2 hbody
                refine roundIn_of_wpIn (F := Fence.wide) trivial ?_
                obtain ⟨Lx, hstart⟩ := params_ok L.params.toList args vs.toList st L.env tmps hreps (round_start hsr htsz hslots) hps
                have hfold : ((L.params.toList.zip vs.toList).foldl (fun tmps (t, a) => tmps.setIfInBounds t a) tmps) = (L.params.zip vs).foldl (fun tmps (t, a) => tmps.setIfInBounds t a) tmps := by
                  rw [← Array.foldl_toList, Array.toList_zip]
                rw [hfold] at hstart
                have c1 := code_sound hP hO L.assign _ _ _ _ _ hassign hreg1 hann { st with L := Lx } { tmps := (L.params.zip vs).foldl (fun tmps (t, a) => tmps.setIfInBounds t a) tmps, defers := [] } st.w.heap.size (Fz st) n (some b) ⟨b, rfl, hb⟩ (Nat.le_refl _) hstart
                  ⟨[], rfl, List.nodup_nil, by simp⟩
                refine wpIn_mono (F := Fence.wide.inRound b) c1 fun ex a1 w1 hp => ?_
                obtain ⟨rfl, B', st1, rfl, hBB, hok1, hst1, hm1⟩ := hp
                show ∃ w2, _ ∧ _
                have hι1 : st1.ι[l]? = some b := pre_get hst1.grow.pre hb
                obtain ⟨r1, p1, p2, p3, p4⟩ := LoopOK.set (hok1.sr.obj l (.loop L1) b hL1 hι1) .busy L1.pending
                have hbegin := run_beginRound (P := G.P) p1 (by rw [p2]; exact hready1)
                have hr1 : ({ r1 with state := .busy } : Loop) = { r1 with state := .busy, pending := L1.pending } := by rw [← p3]
                rw [hr1] at hbegin
                refine ⟨_, hbegin, ?_⟩
                obtain ⟨hok2, hst2⟩ := hok1.setLoop hL1 hι1 p1 (Turn.putObj st1.w b (.loop { r1 with state := .busy, pending := L1.pending })) p4
                have c2 := code_sound hP hO L.body _ _ _ _ _ hbody hreg2 hann { st1 with w := st1.w.putObj b (.loop { r1 with state := .busy, pending := L1.pending }) } a1 st.w.heap.size B' n (some b) ⟨b, rfl, pre_get hst2.grow.pre hι1⟩ (Nat.le_trans hst1.size hst2.size) hok2
                  (hm1.step (fun _ h => h) hst2)
                refine wpIn_mono (F := Fence.wide.inRound b) c2 fun ex a2 w2 hp => ?_
                obtain ⟨rfl, B'', st3, rfl, hBB2, hok3, hst3, _⟩ := hp
                have hι3 : st3.ι[l]? = some b := pre_get hst3.grow.pre hι1
                have hall : Step (Fz st) st st3 := by
                  have := (hst1.trans (hst2.weaken hBB)).trans (hst3.weaken hBB)
                  exact ⟨this.grow, this.size, this.blk, this.os, this.tape, this.output⟩
                split at h
                · rename_i L2 hL2
                  -- what a round's end comes to
                  have fin : ∀ (jump : Option Code) (s : LoopState), s = (if jump.isNone then .ready else .done) →
                      ∃ v' w4, (Instr.endRound b jump).run G.P st3.w = .ok v' w4 ∧ CPost G st (.bool jump.isNone) (σ2.set l (.loop { L2 with state := s, pending := jump })) (.returned v') w4 := by
                    intro jump s hs
                    obtain ⟨r3, u1, u2, u3, u4⟩ := LoopOK.set (hok3.sr.obj l (.loop L2) b hL2 hι3) s jump
                    have hend := run_endRound (P := G.P) jump u1
                    rw [← hs] at hend
                    obtain ⟨hok4, hst4⟩ := hok3.setLoop hL2 hι3 u1 (Turn.putObj st3.w b (.loop { r3 with state := s, pending := jump })) u4
                    refine ⟨_, _, hend, { st3 with w := st3.w.putObj b (.loop { r3 with state := s, pending := jump }) }, rfl, hok4.sr, .bool _, hall.trans (hst4.weaken fun x hx => hBB2 x (hBB x hx)), fun x hx hf => hok4.out x hx (hBB2 x (hBB x hf))⟩
                  split at h
                  · simp only [Option.some.injEq, Res.ret.injEq] at h
                    obtain ⟨rfl, rfl⟩ := h
                    exact fin none .ready rfl
                  · simp only [Option.some.injEq, Res.ret.injEq] at h
                    obtain ⟨rfl, rfl⟩ := h
                    exact fin (some .ret) .done rfl
                  · rename_i id
                    simp only [Option.some.injEq, Res.ret.injEq] at h
                    obtain ⟨rfl, rfl⟩ := h
                    exact fin (some (.exit id)) .done rfl
                · simp at h
              · simp at h
            · simp at h
          · simp at h
        · simp at h
      · simp at h
    · simp at h
  · simp at h

theorem stepT_sound {k : Nat} (hP : PrgOK G) (hPr : PrimOK G) (hB : OBel O) (hO : OrSound G k O) : OrSound G (k + 1) (stepT G O) where
  call := fun g args σ v σ' h => call_sound hP hPr hB hO h
  yield := fun l args σ v σ' h st vs n b hsr hb hr => yield_sound hP hO h st vs n b hsr hb hr
  loop := fun E b ρ σ e ρ' σ' h => by
    simp only [stepT] at h
    split at h
    · rename_i hex
      simp only [Option.some.injEq, Res.code.injEq] at h
      obtain ⟨rfl, rfl, rfl⟩ := h
      exact loop_sound hO (fun ρ σ e ρ' σ' => code_sound hP hO b ρ σ e ρ' σ') hex
    · simp at h

theorem F_sound (hP : PrgOK G) (hPr : PrimOK G) : ∀ n, OrSound G n (F G n)
  | 0 => ⟨fun _ _ _ _ _ h => by simp [F] at h, fun _ _ _ _ _ h => by simp [F] at h, fun _ _ _ _ _ _ _ h => by simp [F] at h⟩
  | n + 1 => stepT_sound hP hPr (F_bel G n) (F_sound hP hPr n)

end Go.AI
