/- The abstract machine: scripts that call nobody play out whatever the oracle. -/
import Derived.Test.YtdpamhejneicdaaGreatDoorZGF
import Derived.Test.YtdpamhejneicdaaGreatDoorZGE
import Derived.Lib.LazyBuf
namespace Go.AI
set_option linter.unusedVariables false
set_option linter.unusedSimpArgs false
open Go
variable {G : Prg} {E : EE} {O : Task → Option Res}

def calm : List Ent → Bool
  | [] => true
  | .r _ _ :: _ => false
  | .c _ _ _ :: _ => false
  | _ :: s => calm s

theorem play_any : ∀ (T : Tree) (s : List Ent) (r : Res) (obs : List Prop), calm s = true → play G T s = some (r, obs) → AllP obs → T.run G O = some r := by
  intro T
  induction T with
  | done r0 =>
    intro s r obs hc h _
    cases r0 with
    | none => simp [play] at h
    | some r0 =>
      cases s with
      | nil => simp [play] at h; simp [Tree.run, h.1]
      | cons x s => simp [play] at h
  | ask b k ih =>
    intro s r obs hc h ho
    cases s with
    | nil => simp [play] at h
    | cons x s =>
      cases x with
      | s => simp only [play] at h; exact ih b s r obs hc h ho
      | b c =>
        simp only [play, Option.map_eq_some_iff] at h
        obtain ⟨p, h1, h2⟩ := h
        simp only [Prod.mk.injEq] at h2
        obtain ⟨rfl, rfl⟩ := h2
        obtain ⟨rfl, ho⟩ := ho
        exact ih b s _ _ hc h1 ho
      | _ => simp [play] at h
  | nat n k ih =>
    intro s r obs hc h ho
    cases s with
    | nil => simp [play] at h
    | cons x s =>
      cases x with
      | s =>
        simp only [play] at h
        split at h
        · rename_i h0
          simp only [Tree.run, if_pos h0]; exact ih _ s r obs hc h ho
        · simp at h
      | n c =>
        simp only [play, Option.map_eq_some_iff] at h
        obtain ⟨p, h1, h2⟩ := h
        simp only [Prod.mk.injEq] at h2
        obtain ⟨rfl, rfl⟩ := h2
        obtain ⟨rfl, ho⟩ := ho
        simp only [Tree.run]; rw [if_pos (by omega)]; exact ih c s _ _ hc h1 ho
      | _ => simp [play] at h
  | get ty es i k ih =>
    intro s r obs hc h ho
    cases s with
    | nil => simp [play] at h
    | cons x s =>
      cases x with
      | s =>
        simp only [play] at h
        split at h
        · rename_i a ha
          simp only [Tree.run, ha]; exact ih _ s r obs hc h ho
        · simp at h
      | a v =>
        simp only [play, Option.map_eq_some_iff] at h
        obtain ⟨p, h1, h2⟩ := h
        simp only [Prod.mk.injEq] at h2
        obtain ⟨rfl, rfl⟩ := h2
        obtain ⟨ha, ho⟩ := ho
        simp only [Tree.run, ha]; exact ih v s _ _ hc h1 ho
      | _ => simp [play] at h
  | chk p k ih =>
    intro s r obs hc h ho
    cases s with
    | nil => simp [play] at h
    | cons x s =>
      cases x with
      | s =>
        simp only [play] at h
        split at h
        · rename_i h0
          simp only [Tree.run, if_pos h0]; exact ih s r obs hc h ho
        · simp at h
      | u =>
        simp only [play, Option.map_eq_some_iff] at h
        obtain ⟨q, h1, h2⟩ := h
        simp only [Prod.mk.injEq] at h2
        obtain ⟨rfl, rfl⟩ := h2
        obtain ⟨h0, ho⟩ := ho
        simp only [Tree.run, if_pos h0]; exact ih s _ _ hc h1 ho
      | _ => simp [play] at h
  | box σ id k ih =>
    intro s r obs hc h ho
    cases s with
    | nil => simp [play] at h
    | cons x s =>
      cases x with
      | s =>
        simp only [play] at h
        split at h
        · rename_i cs ow ha
          simp only [Tree.run, ha]; exact ih _ _ s r obs hc h ho
        · simp at h
      | x cs ow =>
        simp only [play, Option.map_eq_some_iff] at h
        obtain ⟨p, h1, h2⟩ := h
        simp only [Prod.mk.injEq] at h2
        obtain ⟨rfl, rfl⟩ := h2
        obtain ⟨ha, ho⟩ := ho
        simp only [Tree.run, ha]; exact ih cs ow s _ _ hc h1 ho
      | _ => simp [play] at h
  | lp σ id k ih =>
    intro s r obs hc h ho
    cases s with
    | nil => simp [play] at h
    | cons x s =>
      cases x with
      | s =>
        simp only [play] at h
        split at h
        · rename_i L ha
          simp only [Tree.run, ha]; exact ih _ s r obs hc h ho
        · simp at h
      | l L =>
        simp only [play, Option.map_eq_some_iff] at h
        obtain ⟨p, h1, h2⟩ := h
        simp only [Prod.mk.injEq] at h2
        obtain ⟨rfl, rfl⟩ := h2
        obtain ⟨ha, ho⟩ := ho
        simp only [Tree.run, ha]; exact ih L s _ _ hc h1 ho
      | _ => simp [play] at h
  | cutq ty agg cs off n k ih =>
    intro s r obs hc h ho
    cases s with
    | nil => simp [play] at h
    | cons x s =>
      cases x with
      | s =>
        simp only [play] at h
        split at h
        · rename_i a ha
          simp only [Tree.run, ha]; exact ih _ s r obs hc h ho
        · simp at h
      | a v =>
        simp only [play, Option.map_eq_some_iff] at h
        obtain ⟨p, h1, h2⟩ := h
        simp only [Prod.mk.injEq] at h2
        obtain ⟨rfl, rfl⟩ := h2
        obtain ⟨ha, ho⟩ := ho
        simp only [Tree.run, ha]; exact ih v s _ _ hc h1 ho
      | _ => simp [play] at h
  | lett x k ih =>
    intro s r obs hc h ho
    simp only [play] at h
    exact ih x s r obs hc h ho
  | letb x k ih =>
    intro s r obs hc h ho
    simp only [play] at h
    exact ih x s r obs hc h ho
  | mth o k ih =>
    intro s r obs hc h ho
    cases o with
    | none => simp [play] at h
    | some g =>
      simp only [play] at h
      exact ih g s r obs hc h ho
  | call ty g args σ quiet k ih =>
    intro s r obs hc h ho
    cases s with
    | nil => simp [play] at h
    | cons x s => cases x <;> first | (simp [calm] at hc; done) | (simp [play] at h; done)
  | yield ty l args σ k ih =>
    intro s r obs hc h ho
    cases s with
    | nil => simp [play] at h
    | cons x s => cases x <;> first | (simp [calm] at hc; done) | (simp [play] at h; done)
  | loopc E b ρ σ k ih =>
    intro s r obs hc h ho
    cases s with
    | nil => simp [play] at h
    | cons x s => cases x <;> first | (simp [calm] at hc; done) | (simp [play] at h; done)
  | loopo E b ρ σ k ih =>
    intro s r obs hc h ho
    cases s with
    | nil => simp [play] at h
    | cons x s => cases x <;> first | (simp [calm] at hc; done) | (simp [play] at h; done)

/-- A piece of code that calls nobody. -/
theorem exec_of {c : Code} {ρ ρ' : Env} {σ σ' : Sig} {e : XExit} {obs : List Prop} (s : List Ent) (hc : calm s = true) (h : play G (execT G E c ρ σ fun e ρ σ => .done (some (.code e ρ σ))) s = some (.code e ρ' σ', obs)) (ho : AllP obs) :
    execC G E O c ρ σ = some (e, ρ', σ') := by
  obtain ⟨e1, ρ1, σ1, h1, h2⟩ := run_execT _ _ _ _ (play_any (O := O) _ _ _ _ hc h ho)
  simp only [Tree.run, Option.some.injEq, Res.code.injEq] at h2
  obtain ⟨rfl, rfl, rfl⟩ := h2
  exact h1

end Go.AI

/- The abstract machine: slices.Clone hands back its slice, whether it is nil or not. -/
namespace Go.AI
set_option linter.unusedVariables false
set_option linter.unusedSimpArgs false
open Go

variable {G : Prg} {an : Ann} {E : EE} {B0 B1 : Nat → Prop} {st st0 : St} {ρ ρm ρ' : Env} {σ σ' : Sig} {a : Act} {o : Oper} {tmps : Array Value} {O : Task → Option Res}

theorem none_sound : OrSound G 0 (fun _ => none) := ⟨fun _ _ _ _ _ h => by simp at h, fun _ _ _ _ _ h => by simp at h, fun _ _ _ _ _ _ _ h => by simp at h⟩

/-- A frame that comes to its end with the boxes as they are. -/
theorem leave_sound {fn : Func} {n : Nat} {st : St} {ex : Exit} {a' : Act} {w' : World} {e : XExit} {ρ1 : Env} {rs : List AV} (he : e = .ret ∨ e = .normal) (hsr : SR G st.w st.ext st.ι st.S st.SL σ)
    (hp : CodePost G E st.w.heap.size (Fz st) st e ρ1 σ ex a' w') (hrs : fn.results.toList.mapM (resOf G ρ1 σ) = some rs) : bodyPostM Fence.wide n G.P fn (CPost G st (results1 rs) σ) ex a' w' := by
  obtain ⟨rfl, B', st1, rfl, hBB, hok, hst, ms, hms1, hms2, hms3⟩ := hp
  have hleave : LeavesInM Fence.wide n G.P fn a'.tmps (CPost G st (results1 rs) σ) a'.defers .returning st1.w := by
    rw [hms1]
    refine shut_all (an := E.an) (ρ := ρ1) (σ := σ) (B1 := fun x => B' x ∧ x ∉ ms) ms st1 (hok.less fun b hb => hb.1) hms2 (fun b hb => ?_) fun st2 hok2 hst2 => ?_
    · obtain ⟨m1, m2, m3⟩ := hms3 b hb
      exact ⟨fun hx => hx.2 hb, hok.base b m2, fun hs => hok.out b hs m2, fun p hpp => (hok.priv p b hpp).1 m2, m3⟩
    · have hFz : ∀ x, Fz st x → B' x ∧ x ∉ ms := fun x hx => ⟨hBB x hx, fun hm => by
        have := (hms3 x hm).1
        have := hx.1
        omega⟩
      obtain ⟨cv, hrun, hrep⟩ := results_run hok2 hrs
      refine ⟨cv, hrun, ?_⟩
      have hst' : Step (Fz st) st st2 := hst.trans (hst2.weaken hFz)
      have hout : ∀ b, st2.S b → ¬ Fz st b := fun b hs hf => hok2.out b hs (hFz b hf)
      exact ⟨st2, rfl, hok2.sr, hrep, hst', hout⟩
  rcases he with rfl | rfl
  · exact hleave
  · exact hleave

theorem clone_sound (hP : PrgOK G) {g : FuncId} {fn : Func} {an : Ann} {r0 r2 r3 : Code} {i1 : Nat} {o1 o2 : Oper} {tt e : TypeId} {d3 d4 : Nat} (hann : G.ann g = some an) (hfn : G.P.funcs[g]? = some fn)
    (hbody : fn.body = some (.seq r0 (.seq (.seq (.region i1 #[o1, o2] false) (.cond (.tmp d4) (.seq r2 .ret) .skip)) (.seq r3 .ret))))
    (ho2 : o2.op = .binOp .eql tt (.tmp d3) (.const (.slice none 0 0)) tt) (ho2d : o2.dst = some d4) (ho2g : o2.guard = none) (hu : G.P.underlying tt = some (.slice e)) (hd4 : d4 < an.ntmps) (hl4 : an.loc.contains d4 = false) (h1t : 1 ≤ an.ntmps)
    (ρ0 ρ1 : AV → Env) (ρT : AV → Env) (ρF : AV → Env)
    (h0 : ∀ v σ, execC G { an, fn := g, base := σ.length, round := none } (fun _ => none) r0 (startEnv an [v]) σ = some (.normal, ρ0 v, σ))
    (h1 : ∀ v σ, aop G { an, fn := g, base := σ.length, round := none } (fun _ => none) #[o1, o2] false o1 (ρ0 v) σ = some (ρ1 v, σ)) (h13 : ∀ v, ∃ ow, ρ1 v d3 = .val v ow)
    (hT : ∀ v σ, execC G { an, fn := g, base := σ.length, round := none } (fun _ => none) r2 (forget (an.outOf i1) (upd (ρ1 v) d4 (.val .any []))) σ = some (.normal, ρT v, σ))
    (hF : ∀ sz es σ, sz = 1 → es.length ≤ 4294967296 → execC G { an, fn := g, base := σ.length, round := none } (fun _ => none) r3 (forget (an.outOf i1) (upd (ρ1 (.slice sz es)) d4 (.val .any []))) σ = some (.normal, ρF (.slice sz es), σ))
    (hrT : ∀ sz σ, sz = 1 → fn.results.toList.mapM (resOf G (ρT (.slice sz [])) σ) = some [.slice sz []]) (hrF : ∀ sz es σ, fn.results.toList.mapM (resOf G (ρF (.slice sz es)) σ) = some [.slice sz es]) :
    Body G.P g ∧ ∀ (sz : Nat) (es : List AV) (σ : Sig) (st : St) (vs : Array Value) (n : Nat), sz = 1 → es.length ≤ 4294967296 → SR G st.w st.ext st.ι st.S st.SL σ → Reps st.w st.ext st.ι [.slice sz es] vs.toList →
      CallsIn Fence.wide n G.P g vs st.w (CPost G st (.slice sz es) σ) := by
  refine ⟨⟨fn, _, hfn, hbody, hP.name _ _ _ hann hfn⟩, fun sz es σ st vs n hsz hle hsr hreps => ?_⟩
  have hreg := hP.reg _ _ _ _ hann hfn hbody
  simp only [regionsOK, Bool.and_eq_true] at hreg
  obtain ⟨g0, ⟨_, g2, _⟩, g3, _⟩ := hreg
  refine callsIn_of_wp_marks hfn hbody trivial ?_
  have hstart := start_ok (an := an) hsr hreps (by simpa using h1t)
  have hszn := hP.size _ _ _ hann hfn
  rw [hszn]
  let E : EE := { an, fn := g, base := σ.length, round := none }
  have k0 : OrSound G 0 (fun _ => none) := none_sound
  have c0 := code_sound hP k0 r0 _ _ _ _ _ (h0 (.slice sz es) σ) g0 hann st { tmps := vs ++ Array.replicate (an.ntmps - vs.size) undef, defers := [] } st.w.heap.size (Fz st) n none rfl (Nat.le_refl _) hstart ⟨[], rfl, List.nodup_nil, by simp⟩
  refine wpIn_seq (wpIn_mono (F := Fence.wide) c0 fun ex a0 w0 hp => ?_)
  obtain ⟨rfl, B0, st0, rfl, hB0, hok0, hst0, hm0⟩ := hp
  show Code.wpIn _ _ _ _ _ a0 st0.w
  refine wpIn_seq (wpIn_seq (wpIn_region (F := Fence.wide) ?_))
  rw [show (List.range (#[o1, o2] : Array Oper).size) = [0, 1] from rfl, wpOpsIn_cons]
  refine op_sound hP k0 none n (i := 0) (o := o1) rfl hok0 (h1 (.slice sz es) σ) fun a1 st1 hok1 hst1 hd1 => ?_
  rw [wpOpsIn_cons]
  -- is it nil?
  obtain ⟨ow, hρ1⟩ := h13 (.slice sz es)
  have hslot := hok1.slot d3
  rw [hρ1] at hslot
  obtain ⟨pa, cap, us, hev, _, hes, hus, _, hadr⟩ := rep_slice_inv hslot.1
  have hev' : a1.eval (.tmp d3) = .slice pa es.length cap := hev
  have hrun : (execOp a1.eval o2).run G.P st1.w = .ok (.value (.bool pa.isNone)) st1.w := by
    have := run_eql_slice_nil (P := G.P) st1.w tt e pa es.length cap hu
    have hc : a1.eval (.const (.slice none 0 0)) = .slice none 0 0 := rfl
    simp only [execOp, ho2, hev', hc, eqGuard, Sem.run_bind, Bool.not_true, Bool.false_eq_true, if_false, ite_self, this, Result.andThen_ok, Sem.run_pure]
  have hw : Region.wanted o2 (yielded #[o1, o2] a1.tmps) = true := by simp [Region.wanted, ho2g]
  unfold wpOpIn
  simp only [show (#[o1, o2] : Array Oper)[1]? = some o2 from rfl, hw, if_true]
  refine ⟨fun _ _ => trivial, ?_⟩
  rw [Oper.semAt_eq _ _ _ (by intro c hc; rw [ho2] at hc; cases hc), hrun, Oper.uponIn_value, ho2d]
  show Exit.then _ _ .normal _ st1.w
  obtain ⟨L2, hok2⟩ := hok1.putPlain (v := .any) (c := .bool pa.isNone) hd4 hl4 (.any _)
  have hok3 := hok2.forget (an.outOf i1)
  have hm1 : Marks st.w.heap.size B0 { st1 with L := L2 } (a1.put (some d4) (.bool pa.isNone)).defers := by
    rw [put_defers, hd1]; exact hm0.step (fun _ h => h) (st' := { st1 with L := L2 }) ⟨hst1.grow, hst1.size, hst1.blk, hst1.os, hst1.tape, hst1.output⟩
  have hall : Step B0 st0 { st1 with L := L2 } := ⟨hst1.grow, hst1.size, hst1.blk, hst1.os, hst1.tape, hst1.output⟩
  have hcond : (a1.put (some d4) (.bool pa.isNone)).eval (.tmp d4) = .bool pa.isNone := eval_put_same (by rw [hok1.size]; exact hd4)
  have hN : st.w.heap.size ≤ st1.w.heap.size := Nat.le_trans hst0.size hst1.size
  have hback : ∀ {B'' : Nat → Prop} {st'' : St}, (∀ b, B0 b → B'' b) → True := fun _ => trivial
  refine wpIn_cond_split hcond (fun hnil => ?_) (fun hnil => ?_)
  · -- nil
    have hes0 : es = [] := by
      cases pa with
      | some x => simp at hnil
      | none =>
        rcases hadr with h | ⟨b, off, h, _⟩
        · have hl := len_flat hes hus
          rw [h] at hl
          rcases Nat.eq_zero_or_pos es.length with h0 | h0
          · exact List.eq_nil_of_length_eq_zero h0
          · have : 0 < es.length * sz := Nat.mul_pos h0 (by omega)
            simp at hl; omega
        · cases h
    subst hes0
    have c2 := code_sound hP k0 r2 _ _ _ _ _ (hT (.slice sz []) σ) g2.1 hann { st1 with L := L2 } (a1.put (some d4) (.bool pa.isNone)) st.w.heap.size B0 n none rfl hN hok3 hm1
    refine wpIn_seq (wpIn_mono (F := Fence.wide) c2 fun ex a2 w2 hp => ?_)
    obtain ⟨rfl, B2, st2, rfl, hB2, hok4, hst2, hm2⟩ := hp
    refine wpIn_ret ?_
    have hp : CodePost G E st.w.heap.size (Fz st) st .ret (ρT (.slice sz [])) σ .ret a2 st2.w :=
      ⟨rfl, B2, st2, rfl, fun b hb => hB2 b (hB0 b hb), hok4, (hst0.trans (hall.weaken hB0)).trans (hst2.weaken hB0), hm2⟩
    exact leave_sound (E := E) (.inl rfl) hsr hp (hrT sz σ hsz)
  · refine wpIn_skip ?_
    show Code.wpIn _ _ _ _ _ _ st1.w
    have c3 := code_sound hP k0 r3 _ _ _ _ _ (hF sz es σ hsz hle) g3 hann { st1 with L := L2 } (a1.put (some d4) (.bool pa.isNone)) st.w.heap.size B0 n none rfl hN hok3 hm1
    refine wpIn_seq (wpIn_mono (F := Fence.wide) c3 fun ex a2 w2 hp => ?_)
    obtain ⟨rfl, B2, st2, rfl, hB2, hok4, hst2, hm2⟩ := hp
    refine wpIn_ret ?_
    have hp : CodePost G E st.w.heap.size (Fz st) st .ret (ρF (.slice sz es)) σ .ret a2 st2.w :=
      ⟨rfl, B2, st2, rfl, fun b hb => hB2 b (hB0 b hb), hok4, (hst0.trans (hall.weaken hB0)).trans (hst2.weaken hB0), hm2⟩
    exact leave_sound (E := E) (.inl rfl) hsr hp (hrF sz es σ)

end Go.AI

