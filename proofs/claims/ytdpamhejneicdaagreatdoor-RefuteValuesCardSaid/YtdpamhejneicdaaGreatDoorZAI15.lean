/- The abstract machine: what is asked of calls, rounds and loops; one operation in the kit's calculus. -/
import Derived.Test.YtdpamhejneicdaaGreatDoorZAI14
namespace Go.AI
set_option linter.unusedVariables false
set_option linter.unusedSimpArgs false
open Go

variable {G : Prg} {an : Ann} {E : EE} {B0 : Nat → Prop} {st : St} {ρ ρm ρ' : Env} {σ σ' : Sig} {ups : List (Nat × Slot)} {a : Act} {o : Oper} {tmps : Array Value} {O : Task → Option Res} {ops : Array Oper} {quiet : Bool}

/-- What is asked of the program's tables. -/
structure PrgOK (G : Prg) : Prop where
  name : ∀ g an fn, G.ann g = some an → G.P.funcs[g]? = some fn → fn.name ≠ "runtime.NumGoroutine"
  reg : ∀ g an fn c, G.ann g = some an → G.P.funcs[g]? = some fn → fn.body = some c → regionsOK G an c = true
  size : ∀ g an fn, G.ann g = some an → G.P.funcs[g]? = some fn → fn.ntmps = an.ntmps
  mixed : G.P.follows .mixedOrders = true
  glob : ∀ g a, G.gl g = some a → a.flat = true

/-- What is no callee's own. -/
def Fz (st : St) (b : Nat) : Prop := b < st.w.heap.size ∧ ¬ st.S b

def fen (r : Option Nat) : Fence := { Fence.wide with round := r }

def CPost (G : Prg) (st : St) (v : AV) (σ' : Sig) : Ending → World → Prop
  | .returned c, w' => ∃ st' : St, st'.w = w' ∧ SR G st'.w st'.ext st'.ι st'.S st'.SL σ' ∧ Rep st'.w st'.ext st'.ι v c ∧ Step (Fz st) st st' ∧ ∀ b, st'.S b → ¬ Fz st b
  | _, _ => False

/-- The marks of the loops over functions that a frame has entered. -/
def Marks (N : Nat) (B : Nat → Prop) (st : St) (ds : List Deferred) : Prop :=
  ∃ ms : List Nat, ds = ms.map (fun b => { target := .collected b, args := #[] }) ∧ ms.Nodup ∧ ∀ b ∈ ms, N ≤ b ∧ B b ∧ st.w.heap[b]? = some (.deferred (some []))

def XExit.to : XExit → Exit
  | .normal => .normal
  | .exit id => .exit id
  | .ret => .ret

def CodePost (G : Prg) (E : EE) (N : Nat) (B : Nat → Prop) (st : St) (e : XExit) (ρ' : Env) (σ' : Sig) : Exit → Act → World → Prop := fun ex a' w' =>
  ex = e.to ∧ ∃ (B' : Nat → Prop) (st' : St), st'.w = w' ∧ (∀ b, B b → B' b) ∧ OK G E.an B' st' ρ' σ' a'.tmps ∧ Step B st st' ∧ Marks N B' st' a'.defers

/-- The fence's round is that of the frame. -/
def RoundOK (E : EE) (r : Option Nat) (st : St) : Prop := match E.round with | none => r = none | some l => ∃ b, r = some b ∧ st.ι[l]? = some b

theorem RoundOK.step {E : EE} {r : Option Nat} {B : Nat → Prop} {st st' : St} (h : RoundOK E r st) (hst : Step B st st') : RoundOK E r st' := by
  unfold RoundOK at *
  cases hr : E.round with
  | none => rw [hr] at h; exact h
  | some l =>
    rw [hr] at h
    obtain ⟨b, h1, h2⟩ := h
    exact ⟨b, h1, pre_get hst.grow.pre h2⟩

def CodeOK (G : Prg) (E : EE) (c : Code) (ρ : Env) (σ : Sig) (e : XExit) (ρ' : Env) (σ' : Sig) : Prop :=
  regionsOK G E.an c = true → G.ann E.fn = some E.an → ∀ (st : St) (a : Act) (N : Nat) (B : Nat → Prop) (n : Nat) (r : Option Nat), RoundOK E r st → N ≤ st.w.heap.size → OK G E.an B st ρ σ a.tmps → Marks N B st a.defers → c.wpIn (fen r) n G.P (CodePost G E N B st e ρ' σ') a st.w

/-- At most so many rounds of a loop. -/
def Wn (F : Fence) (n : Nat) (P : Program) (b : Code) (Q : Exit → Act → World → Prop) : Nat → Act → World → Prop
  | 0, _, _ => False
  | m + 1, a, w => b.wpIn F n P (Exit.then (Wn F n P b Q m) Q) a w

def LoopW (G : Prg) (E : EE) (b : Code) (k : Nat) (ρ : Env) (σ : Sig) (e : XExit) (ρ' : Env) (σ' : Sig) : Prop :=
  regionsOK G E.an (.loop b) = true → G.ann E.fn = some E.an → ∀ (st : St) (a : Act) (N : Nat) (B : Nat → Prop) (n : Nat) (r : Option Nat), RoundOK E r st → N ≤ st.w.heap.size → OK G E.an B st ρ σ a.tmps → Marks N B st a.defers → Wn (fen r) n G.P b (CodePost G E N B st e ρ' σ') k a st.w

def Body (P : Program) (g : FuncId) : Prop := ∃ fn c, P.funcs[g]? = some fn ∧ fn.body = some c ∧ fn.name ≠ "runtime.NumGoroutine"

structure OrSound (G : Prg) (k : Nat) (O : Task → Option Res) : Prop where
  call : ∀ g args σ v σ', O (.call g args σ) = some (.ret v σ') → Body G.P g ∧ ∀ (st : St) (vs : Array Value) (n : Nat), SR G st.w st.ext st.ι st.S st.SL σ → Reps st.w st.ext st.ι args vs.toList →
    CallsIn Fence.wide n G.P g vs st.w (CPost G st v σ')
  yield : ∀ l args σ v σ', O (.yield l args σ) = some (.ret v σ') → ∀ (st : St) (vs : Array Value) (n b : Nat), SR G st.w st.ext st.ι st.S st.SL σ → st.ι[l]? = some b → Reps st.w st.ext st.ι args vs.toList →
    ∃ r, st.w.heap[b]? = some (.loop r) ∧ vs.size = r.params.size ∧
      RoundIn Fence.wide n G.P b r.fn ((r.params.zip vs).foldl (fun tmps (t, a) => tmps.setIfInBounds t a) r.tmps) r.assign r.body st.w (CPost G st v σ')
  loop : ∀ E b ρ σ e ρ' σ', O (.loop E (.loop b) ρ σ) = some (.code e ρ' σ') → LoopW G E b k ρ σ e ρ' σ'

/-! ### Whom an operation calls -/

theorem callFunc_run {P : Program} {g : FuncId} (hb : Body P g) (args : Array Value) (w : World) : (callFunc g args).run P w = .ok (.enter g args) w := by
  obtain ⟨fn, c, h1, h2, h3⟩ := hb
  have h3' : (fn.name == "runtime.NumGoroutine") = false := by simpa using h3
  simp [callFunc, Sem.run_bind, program, Sem.run, h1, h2, h3, Result.andThen]

theorem zip_rep (h : OK G an B0 st ρ σ a.tmps) (hs : Sub ρm ρ) : ∀ (xs : List Operand) (ts : List TypeId) (vs : List AV), xs.length = ts.length →
    (xs.zip ts).mapM (fun (x : Operand × TypeId) => opv G ρm x.2 x.1) = some vs → Reps st.w st.ext st.ι vs (xs.map a.eval) := by
  intro xs
  induction xs with
  | nil => intro ts vs _ h; simp at h; subst h; exact .nil
  | cons x xs ih =>
    intro ts vs hl hm
    cases ts with
    | nil => simp at hl
    | cons t ts =>
      simp only [List.zip_cons_cons, List.mapM_cons, Option.bind_eq_bind, Option.bind_eq_some_iff, Option.pure_def] at hm
      obtain ⟨v, h1, vs', h2, h3⟩ := hm
      simp at h3; subst h3
      exact .cons _ _ _ _ (opv_rep h rfl hs h1) (ih ts vs' (by simpa using hl) h2)

theorem method_run {P : Program} {t : TypeId} {name : String} {g : FuncId} (hm : methodOf P t name = some g) (v : Value) (w : World) (k : Nat) : (method (k + 1) t v name).run P w = .ok (g, v) w := by
  unfold methodOf at hm
  split at hm
  · rename_i m hfind
    rw [Option.bind_eq_some_iff] at hfind
    obtain ⟨i, hi, hf⟩ := hfind
    split at hm
    · rename_i hpath
      have hpl : m.path.toList = [] := by simpa using hpath
      have hpe : m.path.isEmpty = true := by simpa [Array.isEmpty] using hpath
      have hti : (typeInfo t).run P w = .ok i w := by simp [typeInfo, Sem.run_bind, program, Sem.run, hi, Result.andThen]
      split at hm
      · rename_i f el hfn hu
        simp at hm; subst hm
        simp only [method, Sem.run_bind, hti, Result.andThen_ok, hf, hpl, follow, Sem.run_pure, hfn, receiverAt, run_underlying hu, Place.get]
      · rename_i f fs hfn hu
        simp at hm; subst hm
        simp only [method, Sem.run_bind, hti, Result.andThen_ok, hf, hpl, follow, Sem.run_pure, hfn, receiverAt, run_underlying hu, Place.get]
      · simp at hm
    · simp at hm
  · simp at hm

theorem call_run {args : List AV} {g : FuncId} (hc : callOf G ρm o = some (.inl g, args)) (hb : Body G.P g) (h : OK G an B0 st ρ σ a.tmps) (hs : Sub ρm ρ) :
    (∃ c, o.op = .call c) ∧ ∃ vs : Array Value, Reps st.w st.ext st.ι args vs.toList ∧ (execOp a.eval o).run G.P st.w = .ok (.enter g vs) st.w := by
  unfold callOf at hc
  split at hc
  · rename_i c ho
    refine ⟨⟨c, ho⟩, ?_⟩
    simp only [Option.bind_eq_bind, Option.bind_eq_some_iff] at hc
    obtain ⟨as, has, hc⟩ := hc
    split at hc
    · simp at hc
    · rename_i hsz
      have hargs := zip_rep h hs c.args.toList c.argTypes.toList as (by simpa using hsz) has
      split at hc
      · rename_i f hcal
        rw [Option.bind_eq_some_iff] at hc
        obtain ⟨fv, hfv, hc⟩ := hc
        have hrep := opv_rep h rfl hs hfv
        split at hc
        · rename_i g' first cap
          simp at hc
          obtain ⟨rfl, rfl⟩ := hc
          generalize hev : a.eval f = ev at hrep
          cases hrep with
          | func _ _ _ fs cs h1 h2 =>
            refine ⟨fs ++ c.args.map a.eval ++ cs, ?_, ?_⟩
            · have := (h1.append hargs).append h2
              simpa using this
            · simp only [execOp, ho, resolve, hcal, Sem.run_bind, hev, Deferred.ofValue, Sem.run_pure, Result.andThen_ok, invoke]
              exact callFunc_run hb _ _
        · simp at hc
        · simp at hc
      · rename_i r name hcal
        rw [Option.bind_eq_some_iff] at hc
        obtain ⟨rv, hrv, hc⟩ := hc
        have hrep := opv_rep h rfl hs hrv
        split at hc
        · rename_i t v
          rw [Option.bind_eq_some_iff] at hc
          obtain ⟨g', hg', hc⟩ := hc
          simp at hc
          obtain ⟨rfl, rfl⟩ := hc
          generalize hev : a.eval r = ev at hrep
          cases hrep with
          | iface _ _ v' h1 =>
            refine ⟨#[v'] ++ c.args.map a.eval, ?_, ?_⟩
            · simpa using Reps.cons _ _ _ _ h1 hargs
            · simp only [execOp, ho, resolve, hcal, Sem.run_bind, hev, Sem.run_pure, Result.andThen_ok, invoke]
              have e1 : (#[Value.iface t v'] ++ Array.map a.eval c.args)[0]? = some (.iface t v') := by rw [Array.getElem?_append_left Nat.zero_lt_one]; rfl
              have e2 : (#[Value.iface t v'] ++ Array.map a.eval c.args).extract 1 (#[Value.iface t v'] ++ Array.map a.eval c.args).size = Array.map a.eval c.args := by
                apply Array.ext'
                simp [List.take_of_length_le]
              simp only [e1, e2, callMethod, Sem.run_bind]
              have e3 : (program).run G.P st.w = .ok G.P st.w := rfl
              simp only [e3, Result.andThen_ok]
              obtain ⟨k, hk⟩ : ∃ k, G.P.types.size + Made.depth = k + 1 := ⟨G.P.types.size + 99, rfl⟩
              rw [hk, method_run hg' v' st.w k]
              simp only [Result.andThen_ok]
              exact callFunc_run hb _ _
        · simp at hc
      · simp at hc
  · simp at hc

theorem yield_run {args : List AV} {l : Nat} (hc : callOf G ρm o = some (.inr l, args)) (h : OK G an B0 st ρ σ a.tmps) (hs : Sub ρm ρ) :
    (∃ c, o.op = .call c) ∧ ∃ (b : Nat) (vs : Array Value), st.ι[l]? = some b ∧ Reps st.w st.ext st.ι args vs.toList ∧ ∀ r, st.w.heap[b]? = some (.loop r) → vs.size = r.params.size →
      (execOp a.eval o).run G.P st.w = .ok (.round b r.fn ((r.params.zip vs).foldl (fun tmps (t, a) => tmps.setIfInBounds t a) r.tmps) r.assign r.body) st.w := by
  unfold callOf at hc
  split at hc
  · rename_i c ho
    refine ⟨⟨c, ho⟩, ?_⟩
    simp only [Option.bind_eq_bind, Option.bind_eq_some_iff] at hc
    obtain ⟨as, has, hc⟩ := hc
    split at hc
    · simp at hc
    · rename_i hsz
      have hargs := zip_rep h hs c.args.toList c.argTypes.toList as (by simpa using hsz) has
      split at hc
      · rename_i f hcal
        rw [Option.bind_eq_some_iff] at hc
        obtain ⟨fv, hfv, hc⟩ := hc
        have hrep := opv_rep h rfl hs hfv
        split at hc
        · simp at hc
        · rename_i l'
          simp at hc
          obtain ⟨rfl, rfl⟩ := hc
          generalize hev : a.eval f = ev at hrep
          cases hrep with
          | yield _ b hb =>
            refine ⟨b, c.args.map a.eval, hb, by simpa using hargs, fun r hr hz => ?_⟩
            simp only [execOp, ho, resolve, hcal, Sem.run_bind, hev, Deferred.ofValue, Sem.run_pure, Result.andThen_ok, invoke]
            have e : (#[] ++ Array.map a.eval c.args : Array Value) = Array.map a.eval c.args := by simp
            rw [e]
            exact run_yield hr hz
        · simp at hc
      · rename_i r name hcal
        rw [Option.bind_eq_some_iff] at hc
        obtain ⟨rv, hrv, hc⟩ := hc
        split at hc
        · rw [Option.bind_eq_some_iff] at hc
          obtain ⟨g', hg', hc⟩ := hc
          simp at hc
        · simp at hc
      · simp at hc
  · simp at hc

/-! ### A frame behind a call -/

theorem OK.called {st' : St} (h : OK G an B0 st ρ σ tmps) (hsr : SR G st'.w st'.ext st'.ι st'.S st'.SL σ') (hst : Step (Fz st) st st') (hS : ∀ b, st'.S b → ¬ Fz st b) :
    OK G an B0 { st' with L := st.L } ρ σ' tmps ∧ Step B0 st { st' with L := st.L } := by
  have hB : ∀ b, B0 b → Fz st b := fun b hb => ⟨h.base b hb, fun hs => h.out b hs hb⟩
  have hp : ∀ p b, Has st.L ρ p b → Fz st b := fun p b hh => ⟨(h.priv p b hh).2.1, (h.priv p b hh).2.2⟩
  refine ⟨⟨h.size, fun t => ?_, h.fits, h.lptr, fun p b hh => ⟨(h.priv p b hh).1, Nat.lt_of_lt_of_le (h.priv p b hh).2.1 hst.size, fun hs => hS b hs (hp p b hh)⟩, h.inj, fun b hb => Nat.lt_of_lt_of_le (h.base b hb) hst.size,
    fun b hs hb => hS b hs (hB b hb), hsr, h.larr⟩, ⟨hst.grow, hst.size, fun b hb => hst.blk b (hB b hb), hst.os, hst.tape, hst.output⟩⟩
  exact (h.slot t).keep hst.grow (fun hl => hst.blk _ (hp (.box t) _ ⟨hl, rfl⟩)) (fun i hi b hb => hst.blk _ (hp (.own t i) b ⟨hi, hb⟩))

/-- Nothing is shared. -/
theorem SR.empty {w : World} {ext : Nat → Nat} {ι : List Nat} {S : Nat → Prop} {SL : Nat → Nat → Option Nat} (hP : PrgOK G) (h : SR G w ext ι S SL σ) : SR G w ext [] (fun _ => False) SL [] where
  len := rfl
  nodup := List.nodup_nil
  obj := fun id o b ho => by simp at ho
  inS := fun b hb => by cases hb
  ownS := fun id o i b ho => by simp at ho
  inj := fun id o i id' o' i' b ho => by simp at ho
  small := fun b hb => hb.elim
  fresh := h.fresh
  globals := fun g a ha => (h.globals g a ha).flatι _ (hP.glob g a ha)

/-- A value is put. -/
theorem OK.puts (h : OK G an B0 st ρ σ a.tmps) {d : Option Tmp} {v : AV} {c : Value} (hf : Fit an (puts d (.val v []))) (hr : Rep st.w st.ext st.ι v c) :
    ∃ L, OK G an B0 { st with L := L } (apply (AI.puts d (.val v [])) ρ) σ (a.put d c).tmps := by
  cases d with
  | none => exact ⟨st.L, h⟩
  | some d =>
    obtain ⟨h1, h2⟩ := hf (d, .val v []) (by simp [AI.puts])
    exact h.putPlain h1 (fit_val h2) hr

theorem put_defers (a : Act) (d : Option Tmp) (v : Value) : (a.put d v).defers = a.defers := by cases d <;> rfl

theorem want_wanted (h : OK G an B0 st ρ σ a.tmps) (hs : Sub ρm ρ) {b : Bool} (hw : want ρm ops o = some b) : Region.wanted o (yielded ops a.tmps) = b := by
  unfold want at hw
  unfold Region.wanted
  split at hw
  · rename_i hg; simp at hw; subst hw; rw [hg]
  · rename_i j w hg
    rw [hg]
    simp only
    split at hw
    · simp at hw
    · rename_i d hd
      have key : ∀ (v : AV) ow, ρm d = .val v ow → Rep st.w st.ext st.ι v (a.tmps.getD d undef) := by
        intro v ow hv
        have := h.slot d
        rw [hs.val hv (by simp)] at this
        exact this.1
      split at hw
      · rename_i b' ow hρ
        have := rep_bool_inv (key _ _ hρ)
        simp at hw; subst hw
        have hy : yielded ops a.tmps j = some b' := by
          unfold yielded
          rw [hd]
          simp only [Option.bind_some]
          have hlt : d < a.tmps.size := by
            rcases Nat.lt_or_ge d a.tmps.size with h' | h'
            · exact h'
            · rw [Array.getD_eq_getD_getElem?, Array.getElem?_eq_none h'] at this
              simp [undef] at this
          rw [Array.getD_eq_getD_getElem?, Array.getElem?_eq_getElem hlt] at this
          rw [Array.getElem?_eq_getElem hlt]
          simp at this
          rw [this]
        rw [hy]
        cases b' <;> cases w <;> rfl
      · rename_i ow hρ
        have hr := key _ _ hρ
        simp at hw; subst hw
        generalize hg : a.tmps.getD d undef = c at hr
        cases hr with
        | tuple _ vs hvs =>
        have hy : yielded ops a.tmps j = none := by
          unfold yielded
          rw [hd]
          simp only [Option.bind_some]
          rw [Array.getD_eq_getD_getElem?] at hg
          cases ht : a.tmps[d]? with
          | none => rfl
          | some x => rw [ht] at hg; simp at hg; rw [hg]
        rw [hy]; rfl
      · simp at hw

theorem op_sound (hP : PrgOK G) {k : Nat} (hO : OrSound G k O) (r : Option Nat) (n : Nat) {i : Nat} (hi : ops[i]? = some o) (h : OK G E.an B0 st ρ σ a.tmps) (haop : aop G E O ops quiet o ρ σ = some (ρ', σ'))
    {K : Act → World → Prop} {Q : Exit → Act → World → Prop} (hK : ∀ a' st', OK G E.an B0 st' ρ' σ' a'.tmps → Step B0 st st' → a'.defers = a.defers → K a' st'.w) :
    wpOpIn (fen r) n G.P ops Q i K a st.w := by
  obtain ⟨ups, s, hstep, hfit, rfl, rfl⟩ := aop_spec haop
  have hs := mask_sub (rdOf E.an ops o) ρ
  have hm : ∀ t ∈ rdOf E.an ops o, mask (rdOf E.an ops o) ρ t = ρ t := fun t ht => by simp [mask, ht]
  have hf : Fit E.an ups := fun u hu => (hfit u hu).2
  have hnd : ∀ (c : Call), o.op = .call c → ∀ c', o.op ≠ .defer c' := fun c hc c' hc' => by rw [hc] at hc'; cases hc'
  unfold wpOpIn
  simp only [hi]
  unfold stepOp at hstep
  split at hstep
  · simp at hstep
  · rename_i hw
    rw [want_wanted h hs hw]
    simp only [Bool.false_eq_true, if_false]
    refine ⟨fun _ _ => trivial, ?_⟩
    simp only [Option.some.injEq, Prod.mk.injEq] at hstep
    obtain ⟨rfl, rfl⟩ := hstep
    have hσ : (if modeOf G E.an quiet o = SMode.write then (if modeOf G E.an quiet o = SMode.no then [] else σ) else σ) = σ := by
      cases modeOf G E.an quiet o <;> simp
    rw [hσ] at hK
    obtain ⟨L, hL⟩ := h.puts (c := undef) hf (.tuple _ _ .nil)
    exact hK _ { st with L := L } hL (okL L) (put_defers _ _ _)
  · rename_i hw
    rw [want_wanted h hs hw]
    simp only [if_true]
    refine ⟨fun _ _ => trivial, ?_⟩
    split at hstep
    · rename_i hcall
      have hmode : modeOf G E.an quiet o = if quiet then .no else .write := by
        unfold isCall at hcall
        unfold modeOf
        cases ho : o.op <;> simp [ho] at hcall ⊢
        rename_i c
        obtain ⟨callee, args, tys⟩ := c
        cases callee <;> simp at hcall ⊢
      split at hstep
      · simp at hstep
      · rename_i g args hcallof
        split at hstep
        · -- no shared name is handed over
          rename_i v hres
          simp only [Option.some.injEq, Prod.mk.injEq] at hstep
          obtain ⟨rfl, rfl⟩ := hstep
          have hσ : (if modeOf G E.an quiet o = .write then (if modeOf G E.an quiet o = .no then [] else σ) else σ) = σ := by
            cases modeOf G E.an quiet o <;> simp
          rw [hσ] at hK
          split at hres
          · rename_i hflat
            have hOc : O (.call g args []) = some (.ret v []) := by
              unfold retOf at hres
              split at hres
              · rename_i e; simp at hres; obtain ⟨rfl, rfl⟩ := hres; exact e
              · simp at hres
            obtain ⟨hbody, hcalls⟩ := hO.call _ _ _ _ _ hOc
            obtain ⟨⟨c, hoc⟩, vs, hreps, hrun⟩ := call_run hcallof hbody h hs
            rw [Oper.semAt_eq _ _ _ (hnd c hoc), hrun, Oper.uponIn_enter]
            refine ⟨fun hd => by simp [fen, Fence.wide] at hd, ?_⟩
            refine CallsIn.mono (F := fen r) (hcalls { st with ι := [], S := fun _ => False } vs (n - 1) (h.sr.empty hP) (hreps.flatι [] hflat)) fun e w' he => ?_
            cases e with
            | returned c' =>
              obtain ⟨st', rfl, q1, q2, q3, q4⟩ := he
              have hfz : ∀ b, b < st.w.heap.size → Fz { st with ι := [], S := fun _ => False } b := fun b hb => ⟨hb, fun h => h⟩
              obtain ⟨k1, k2⟩ := h.newer (w' := st'.w) (ext' := st'.ext) ⟨q3.size, fun b hb => (q3.blk b (hfz b hb)).1, q3.os, q3.tape, q3.output⟩ (fun b hb => (q3.blk b (hfz b hb)).2) q1.fresh
              have hι : st'.ι = [] := List.eq_nil_of_length_eq_zero q1.len
              rw [hι] at q2
              obtain ⟨L, hL⟩ := OK.puts (a := a) k1 hf (q2.mono ⟨fun _ _ _ _ h => h, fun _ => Nat.le_refl _, List.nil_prefix⟩)
              exact hK _ { st with w := st'.w, ext := st'.ext, L := L } hL ⟨k2.grow, k2.size, k2.blk, k2.os, k2.tape, k2.output⟩ (put_defers _ _ _)
            | panicked _ => exact he.elim
            | outgrown => exact he.elim
          · simp at hres
        · split at hstep
          · simp at hstep
          · rename_i hq
            have hq : quiet = false := by simpa using hq
            have hw : modeOf G E.an quiet o = .write := by rw [hmode, hq]; rfl
            rw [if_neg (by rw [hw]; simp)] at hstep
            split at hstep
            · rename_i v σ1 hres
              simp only [Option.some.injEq, Prod.mk.injEq] at hstep
              obtain ⟨rfl, rfl⟩ := hstep
              rw [if_pos hw] at hK
              have hOc : O (.call g args σ) = some (.ret v σ1) := by
                unfold retOf at hres
                split at hres
                · rename_i e; simp at hres; obtain ⟨rfl, rfl⟩ := hres; exact e
                · simp at hres
              obtain ⟨hbody, hcalls⟩ := hO.call _ _ _ _ _ hOc
              obtain ⟨⟨c, hoc⟩, vs, hreps, hrun⟩ := call_run hcallof hbody h hs
              rw [Oper.semAt_eq _ _ _ (hnd c hoc), hrun, Oper.uponIn_enter]
              refine ⟨fun hd => by simp [fen, Fence.wide] at hd, ?_⟩
              refine CallsIn.mono (F := fen r) (hcalls st vs (n - 1) h.sr hreps) fun e w' he => ?_
              cases e with
              | returned c' =>
                obtain ⟨st', rfl, q1, q2, q3, q4⟩ := he
                obtain ⟨k1, k2⟩ := h.called q1 q3 q4
                obtain ⟨L, hL⟩ := OK.puts (a := a) k1 hf q2
                exact hK _ { st' with L := L } hL ⟨k2.grow, k2.size, k2.blk, k2.os, k2.tape, k2.output⟩ (put_defers _ _ _)
              | panicked _ => exact he.elim
              | outgrown => exact he.elim
            · simp at hstep
      · rename_i l args hcallof
        split at hstep
        · simp at hstep
        · rename_i hq
          have hw : modeOf G E.an quiet o = .write := by rw [hmode, if_neg hq]
          rw [if_neg (by rw [hw]; simp)] at hstep
          split at hstep
          · rename_i v σ1 hres
            simp only [Option.some.injEq, Prod.mk.injEq] at hstep
            obtain ⟨rfl, rfl⟩ := hstep
            have hOc : O (.yield l args σ) = some (.ret v σ1) := by
              unfold retOf at hres
              split at hres
              · rename_i e; simp at hres; obtain ⟨rfl, rfl⟩ := hres; exact e
              · simp at hres
            rw [if_pos hw] at hK
            obtain ⟨⟨c, hoc⟩, b, vs, hb, hreps, hrun⟩ := yield_run hcallof h hs
            obtain ⟨rr, hr1, hr2, hround⟩ := hO.yield _ _ _ _ _ hOc st vs (n - 1) b h.sr hb hreps
            rw [Oper.semAt_eq _ _ _ (hnd c hoc), hrun rr hr1 hr2, Oper.uponIn_round]
            refine ⟨fun hd => by simp [fen, Fence.wide] at hd, ?_⟩
            refine RoundIn.mono (F := fen r) hround fun e w' he => ?_
            cases e with
            | returned c' =>
              obtain ⟨st', rfl, q1, q2, q3, q4⟩ := he
              obtain ⟨k1, k2⟩ := h.called q1 q3 q4
              obtain ⟨L, hL⟩ := OK.puts (a := a) k1 hf q2
              exact hK _ { st' with L := L } hL ⟨k2.grow, k2.size, k2.blk, k2.os, k2.tape, k2.output⟩ (put_defers _ _ _)
            | panicked _ => exact he.elim
            | outgrown => exact he.elim
          · simp at hstep
    · rename_i hcall
      have hcall : isCall o = false := by simpa using hcall
      split at hstep
      · rename_i r' harr
        rw [Option.map_eq_some_iff] at hstep
        obtain ⟨u, rfl, hstep⟩ := hstep
        simp only [Prod.mk.injEq] at hstep
        obtain ⟨rfl, rfl⟩ := hstep
        have hσ : (if modeOf G E.an quiet o = SMode.write then (if modeOf G E.an quiet o = SMode.no then [] else σ) else σ) = σ := by
          cases modeOf G E.an quiet o <;> simp
        rw [hσ] at hK
        obtain ⟨v, st', hrun, hok, hst⟩ := sound_arr (ops := ops) h hs hm harr hf
        have hdef : ∀ c, o.op ≠ .defer c := by
          intro c hc'
          simp [arrOp, hc'] at harr
        rw [Oper.semAt_eq _ _ _ hdef]
        rcases hrun with hrun | ⟨hrun, rfl⟩
        · rw [hrun, Oper.uponIn_value]
          exact hK _ st' hok hst (put_defers _ _ _)
        · rw [hrun, Oper.uponIn_skip]
          exact hK _ st' hok hst (put_defers _ _ _)
      have hc := core_mode (quiet := quiet) hcall hstep
      obtain ⟨v, st', hrun, hok, hst⟩ := sound_core (ops := ops) hcall h hs hm hc hf
      have hdef : ∀ c, o.op ≠ .defer c := by
        intro c hc'
        simp [core, core1, hc'] at hc
      rw [Oper.semAt_eq _ _ _ hdef]
      rcases hrun with hrun | ⟨hrun, rfl⟩
      · rw [hrun, Oper.uponIn_value]
        exact hK _ st' hok hst (put_defers _ _ _)
      · rw [hrun, Oper.uponIn_skip]
        exact hK _ st' hok hst (put_defers _ _ _)

end Go.AI
