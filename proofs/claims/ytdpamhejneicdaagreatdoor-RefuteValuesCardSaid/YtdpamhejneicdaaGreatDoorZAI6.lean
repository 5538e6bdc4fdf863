/- The abstract machine: the operations that look at values alone. -/
import Derived.Test.YtdpamhejneicdaaGreatDoorZAI5
namespace Go.AI
set_option linter.unusedVariables false
set_option linter.unusedSimpArgs false
open Go

variable {G : Prg} {E : EE} {B0 : Nat → Prop} {st : St} {ρ ρm : Env} {σ σ' : Sig} {ups : List (Nat × Slot)} {a : Act} {o : Oper}

theorem apply_append (x y : List (Nat × Slot)) (ρ : Env) : apply (x ++ y) ρ = apply y (apply x ρ) := by simp [apply]

/-- A value is made, with rights to append that nobody else has. -/
theorem goal_put {an : Ann} {v : AV} {ow : List Nat} {c : Value} {g : Nat → Option Nat} (h : OK G an B0 st ρ σ a.tmps) (hf : Fit an (puts o.dst (.val v ow)))
    (hr : (execOp a.eval o).run G.P st.w = .ok (.value c) st.w) (hv : Rep st.w st.ext st.ι v c)
    (ho : ∀ i ∈ ow, ∀ a x, v.cells[i]? = some a → c.cells[i]? = some x → OwnC st.w st.ext a x (g i))
    (hp : ∀ i ∈ ow, ∀ b, g i = some b → ¬ B0 b ∧ b < st.w.heap.size ∧ ¬ st.S b)
    (hn : ∀ i ∈ ow, ∀ b, g i = some b → ∀ p, ¬ Has st.L ρ p b)
    (hi : ∀ i ∈ ow, ∀ j ∈ ow, ∀ b, g i = some b → g j = some b → i = j) : OpGoal G an B0 st a o (apply (puts o.dst (.val v ow)) ρ) σ := by
  cases hd : o.dst with
  | none =>
    refine ⟨c, st, .inl hr, ?_, Step.refl _ _⟩
    simpa [puts, apply, hd, Act.put] using h
  | some d =>
    obtain ⟨h1, h2⟩ := hf (d, .val v ow) (by simp [puts, hd])
    have hL := h.put h1 (fit_val h2) g hv ho hp (fun i hi b hb p _ => hn i hi b hb p) hi
    refine ⟨c, { st with L := st.L.setγ d g }, .inl hr, ?_, okL (st.L.setγ d g)⟩
    simpa [puts, apply, hd, put_tmps] using hL

theorem has_clear {L : Lay} {ρ : Env} {s : Nat} {v : AV} {ow : List Nat} (hs : ρ s = .val v ow) {p : Place} {b : Nat} (h : Has L (upd ρ s (.val v [])) p b) : Has L ρ p b ∧ ∀ i, p ≠ .own s i := by
  cases p with
  | box t =>
    by_cases ht : t = s
    · subst ht; simp [Has, upd_same, Slot.isLoc] at h
    · exact ⟨by simpa only [Has, upd_other _ _ _ ht] using h, by simp⟩
  | own t j =>
    by_cases ht : t = s
    · subst ht; simp [Has, upd_same, Slot.ows] at h
    · exact ⟨by simpa only [Has, upd_other _ _ _ ht] using h, by intro i hi; cases hi; exact ht rfl⟩

/-- What an operand owns is handed on. -/
theorem goal_take {t : TypeId} {x : Operand} {v : AV} (h : OK G E.an B0 st ρ σ a.tmps) (hs : Sub ρm ρ) (hv : opv G ρm t x = some v)
    (hf : Fit E.an (puts o.dst (.val v (opo ρm x)))) (hr : (execOp a.eval o).run G.P st.w = .ok (.value (a.eval x)) st.w) :
    OpGoal G E.an B0 st a o (apply (clr ρm x ++ puts o.dst (.val v (opo ρm x))) ρ) σ := by
  have hrep := opv_rep h rfl hs hv
  rw [apply_append]
  cases x with
  | tmp s =>
    simp only [opv] at hv
    split at hv
    · rename_i v' ow hρ
      simp at hv; subst hv
      have hρ' := hs.val hρ (by simp)
      have hc : clr ρm (.tmp s) = [(s, .val v' [])] := by simp [clr, hρ]
      have ho : opo ρm (.tmp s) = ow := by simp [opo, hρ]
      rw [hc]
      rw [ho] at hf ⊢
      have h1 := h.clear (x := s) (s := .val v' []) (.inl ⟨v', ow, [], hρ', rfl, fun _ hi => by cases hi⟩)
      have hsl := h.slot s
      rw [hρ'] at hsl
      have hplace : ∀ i ∈ ow, ∀ b, st.L.γ s i = some b → Has st.L ρ (.own s i) b := fun i hi b hb => ⟨by rw [hρ']; exact hi, hb⟩
      refine goal_put (g := st.L.γ s) h1 hf hr hrep (fun i hi aa xx ha hx => ?_) (fun i hi b hb => h.priv _ _ (hplace i hi b hb)) (fun i hi b hb p hp => ?_) (fun i hi j hj b hb hb' => ?_)
      · refine hsl.2 i hi aa xx ha ?_
        simpa [Act.eval] using hx
      · obtain ⟨k1, k2⟩ := has_clear hρ' hp
        exact k2 i (h.inj _ _ _ k1 (hplace i hi b hb))
      · have := h.inj _ _ _ (hplace i hi b hb) (hplace j hj b hb')
        cases this; rfl
    · simp at hv
  | const c =>
    have hc : clr ρm (.const c) = [] := rfl
    rw [hc]
    refine goal_put (g := fun _ => none) h hf hr hrep (fun i hi aa xx ha hx => ?_) (fun i hi b hb => by cases hb) (fun i hi b hb => by cases hb) (fun i hi j hj b hb => by cases hb)
    intro p n cap hxx
    subst hxx
    unfold opo at hi
    split at hi
    · rename_i h'; cases h'
    · rename_i h'
      simp at hi; subst hi
      injection h' with h'
      subst h'
      simp [Act.eval, Value.cells] at hx
      omega
    · cases hi
  | global g =>
    exact goal_put (g := fun _ => none) h hf hr hrep (fun i hi => by simp [opo] at hi) (fun i hi => by simp [opo] at hi) (fun i hi => by simp [opo] at hi) (fun i hi => by simp [opo] at hi)
  | func f =>
    exact goal_put (g := fun _ => none) h hf hr hrep (fun i hi => by simp [opo] at hi) (fun i hi => by simp [opo] at hi) (fun i hi => by simp [opo] at hi) (fun i hi => by simp [opo] at hi)

theorem sound_move {x : Operand} (ho : o.op = .move x ∨ o.op = .assign x) (h : OK G E.an B0 st ρ σ a.tmps) (hs : Sub ρm ρ) (hc : core1 G E o ρm = some ups) (hf : Fit E.an ups) :
    OpGoal G E.an B0 st a o (apply ups ρ) σ := by
  have hrun : (execOp a.eval o).run G.P st.w = .ok (.value (a.eval x)) st.w := by rcases ho with ho | ho <;> simp [execOp, ho]
  have hc' : (do
    let v ← opv G ρm o.type x
    if takes E.an o.dst x then some (clr ρm x ++ puts o.dst (.val v (opo ρm x))) else some (puts o.dst (.val v []))) = some ups := by
    rcases ho with ho | ho <;> simpa [core1, ho] using hc
  simp only [Option.bind_eq_bind, Option.bind_eq_some_iff] at hc'
  obtain ⟨v, hv, hc'⟩ := hc'
  split at hc'
  · simp at hc'; obtain rfl := hc'
    exact goal_take h hs hv (fun u hu => hf u (List.mem_append_right _ hu)) hrun
  · simp at hc'; obtain rfl := hc'
    exact goal_plain h hf hrun (opv_rep h rfl hs hv)

theorem sound_pick {c x y : Operand} (ho : o.op = .pick c x y) (h : OK G E.an B0 st ρ σ a.tmps) (hs : Sub ρm ρ) (hc : core1 G E o ρm = some ups) (hf : Fit E.an ups) :
    OpGoal G E.an B0 st a o (apply ups ρ) σ := by
  simp only [core1, ho, Option.bind_eq_bind, Option.bind_eq_some_iff] at hc
  obtain ⟨b, hb, hc⟩ := hc
  split at hc
  · rename_i b'
    rw [Option.bind_eq_some_iff] at hc
    obtain ⟨v, hv, hc⟩ := hc
    simp at hc; obtain rfl := hc
    have hb' := opv_rep h rfl hs hb
    cases hcv : a.eval c <;> rw [hcv] at hb' <;> cases hb'
    refine goal_plain h hf (c := if b' then a.eval x else a.eval y) ?_ ?_
    · simp [execOp, ho, hcv, asBool]
    · cases b' <;> simpa using opv_rep h rfl hs hv
  · simp at hc

theorem rep_bool_inv {w : World} {ext : Nat → Nat} {ι : List Nat} {b : Bool} {v : Value} (h : Rep w ext ι (.bool b) v) : v = .bool b := by cases h; rfl
theorem rep_int_inv {w : World} {ext : Nat → Nat} {ι : List Nat} {k : IntKind} {n : Int} {v : Value} (h : Rep w ext ι (.int k n) v) : v = .int k n := by cases h; rfl
theorem rep_nil_inv {w : World} {ext : Nat → Nat} {ι : List Nat} {v : Value} (h : Rep w ext ι .nilp v) : v = .pointer none := by cases h; rfl

theorem isNil_run {w : World} {ext : Nat → Nat} {ι : List Nat} {p : AV} {v : Value} {b : Bool} (hp : isNil p = some b) (h : Rep w ext ι p v) : ∃ x, v = .pointer x ∧ x.isNone = b := by
  unfold isNil at hp
  split at hp
  · simp at hp; subst hp; cases h; exact ⟨_, rfl, rfl⟩
  · simp at hp; subst hp; cases h; exact ⟨_, rfl, rfl⟩
  · simp at hp; subst hp; cases h; exact ⟨_, rfl, rfl⟩
  · simp at hp

theorem abin_run {P : Program} {w w' : World} {ext : Nat → Nat} {ι : List Nat} {op : BinOp} {t : TypeId} {x y : AV} {z : AV} {vx vy : Value} {ox oy : Operand} (hz : abin op x y = some z) (hx : Rep w ext ι x vx) (hy : Rep w ext ι y vy) :
    ∃ c, (do eqGuard op t ox oy vx vy; binOp op t vx vy : Sem Value).run P w' = .ok c w' ∧ Rep w ext ι z c := by
  have key : ∃ k a b, x = .int k a ∧ y = .int k b ∧ ∃ c, (do eqGuard op t ox oy (.int k a) (.int k b); binOp op t (.int k a) (.int k b) : Sem Value).run P w' = .ok c w' ∧ Rep w ext ι z c := by
    unfold abin at hz
    split at hz
    case h_14 => simp at hz
    all_goals (
      split at hz
      case isFalse => simp at hz
      case isTrue hk =>
        simp only [Option.some.injEq] at hz
        first
          | (subst hk; subst hz; refine ⟨_, _, _, rfl, rfl, _, ?_, by first | exact .int _ _ | exact .bool _⟩; simp [eqGuard, binOp, Op.intArith, Op.intBits, Op.intCmp]; done)
          | (obtain ⟨hk, hb⟩ := hk; subst hk; subst hz; refine ⟨_, _, _, rfl, rfl, _, ?_, .int _ _⟩; simp [eqGuard, binOp, Op.intDiv, hb]; done))
  obtain ⟨k, a, b, rfl, rfl, h⟩ := key
  rw [rep_int_inv hx, rep_int_inv hy]
  exact h

theorem equalIn_bool {P : Program} {t : TypeId} (hu : P.underlying t = some .bool) (w : World) (p q : Bool) (d : Nat) : (Op.equalIn (d + 1) t (.bool p) (.bool q)).run P w = .ok (p == q) w := by
  simp only [Op.equalIn, Sem.run_bind, run_underlying hu, Result.andThen_ok, Sem.run_pure]
theorem equalIn_nil {P : Program} {t e : TypeId} (hu : P.underlying t = some (.pointer e)) (w : World) (p : Option Addr) (d : Nat) : (Op.equalIn (d + 1) t (.pointer p) (.pointer none)).run P w = .ok p.isNone w := by
  cases p <;> simp only [Op.equalIn, Sem.run_bind, run_underlying hu, Result.andThen_ok, Sem.run_pure] <;> rfl
theorem equal_bool {P : Program} {t : TypeId} (hu : P.underlying t = some .bool) (w : World) (p q : Bool) : (Op.equal t (.bool p) (.bool q)).run P w = .ok (p == q) w := equalIn_bool hu w p q 9999
theorem equal_nil {P : Program} {t e : TypeId} (hu : P.underlying t = some (.pointer e)) (w : World) (p : Option Addr) : (Op.equal t (.pointer p) (.pointer none)).run P w = .ok p.isNone w := equalIn_nil hu w p 9999

theorem sound_binOp {op : BinOp} {t u : TypeId} {x y : Operand} (ho : o.op = .binOp op t x y u) (h : OK G E.an B0 st ρ σ a.tmps) (hs : Sub ρm ρ) (hc : core1 G E o ρm = some ups) (hf : Fit E.an ups) :
    OpGoal G E.an B0 st a o (apply ups ρ) σ := by
  simp only [core1, ho, Option.bind_eq_bind, Option.bind_eq_some_iff] at hc
  obtain ⟨p, hp, q, hq, hc⟩ := hc
  have rp := opv_rep h rfl hs hp
  have rq := opv_rep h rfl hs hq
  split at hc
  · rename_i hu
    split at hc
    · rename_i p' q'
      simp at hc; obtain rfl := hc
      have e1 := rep_bool_inv rp
      have e2 := rep_bool_inv rq
      exact goal_plain h hf (c := .bool (p' == q')) (by simp only [execOp, ho, e1, e2, eqGuard, binOp, Sem.run_bind, equal_bool hu, Result.andThen_ok, Sem.run_pure]; rfl) (.bool _)
    · rename_i p' q'
      simp at hc; obtain rfl := hc
      have e1 := rep_bool_inv rp
      have e2 := rep_bool_inv rq
      exact goal_plain h hf (c := .bool (p' != q')) (by simp only [execOp, ho, e1, e2, eqGuard, binOp, Sem.run_bind, equal_bool hu, Result.andThen_ok, Sem.run_pure]; rfl) (.bool _)
    · simp at hc
  · rename_i el hu
    split at hc
    · rw [Option.bind_eq_some_iff] at hc
      obtain ⟨b, hb, hc⟩ := hc
      simp at hc; obtain rfl := hc
      obtain ⟨v, e1, e3⟩ := isNil_run hb rp
      have e2 := rep_nil_inv rq
      refine goal_plain h hf (c := .bool b) ?_ (.bool _)
      simp only [execOp, ho, e1, e2, eqGuard, binOp, Sem.run_bind, equal_nil hu, Result.andThen_ok, Sem.run_pure, e3]; rfl
    · rw [Option.bind_eq_some_iff] at hc
      obtain ⟨b, hb, hc⟩ := hc
      simp at hc; obtain rfl := hc
      obtain ⟨v, e1, e3⟩ := isNil_run hb rp
      have e2 := rep_nil_inv rq
      refine goal_plain h hf (c := .bool (!b)) ?_ (.bool _)
      simp only [execOp, ho, e1, e2, eqGuard, binOp, Sem.run_bind, equal_nil hu, Result.andThen_ok, Sem.run_pure, e3]; rfl
    · simp at hc
  · rw [Option.bind_eq_some_iff] at hc
    obtain ⟨z, hz, hc⟩ := hc
    simp at hc; obtain rfl := hc
    obtain ⟨c, hr, hrep⟩ := abin_run (P := G.P) (w' := st.w) (t := t) (ox := x) (oy := y) hz rp rq
    refine goal_plain h hf (c := c) ?_ hrep
    simp only [execOp, ho]
    rw [Sem.run_bind, hr]; rfl

theorem sound_unOp {op : UnOp} {t : TypeId} {x : Operand} (ho : o.op = .unOp op t x) (h : OK G E.an B0 st ρ σ a.tmps) (hs : Sub ρm ρ) (hc : core1 G E o ρm = some ups) (hf : Fit E.an ups) :
    OpGoal G E.an B0 st a o (apply ups ρ) σ := by
  cases op <;> simp only [core1, ho, Option.bind_eq_bind, Option.bind_eq_some_iff] at hc <;> try (simp at hc; done)
  obtain ⟨p, hp, hc⟩ := hc
  split at hc
  · rename_i b
    simp at hc; obtain rfl := hc
    have e1 := rep_bool_inv (opv_rep h rfl hs hp)
    exact goal_plain h hf (c := .bool (!b)) (by simp [execOp, ho, e1, Op.unary]) (.bool _)
  · simp at hc

theorem sound_convert {s d : TypeId} {x : Operand} (ho : o.op = .convert s d x) (h : OK G E.an B0 st ρ σ a.tmps) (hs : Sub ρm ρ) (hc : core1 G E o ρm = some ups) (hf : Fit E.an ups) :
    OpGoal G E.an B0 st a o (apply ups ρ) σ := by
  simp only [core1, ho, Option.bind_eq_bind, Option.bind_eq_some_iff] at hc
  obtain ⟨p, hp, hc⟩ := hc
  split at hc
  · rename_i ds k k' n hs' hd
    simp at hc; obtain rfl := hc
    have e1 := rep_int_inv (opv_rep h rfl hs hp)
    refine goal_plain h hf (c := .int k (k.wrap n)) ?_ (.int _ _)
    simp [execOp, ho, e1, convert, run_underlying hs', run_underlying hd, Conv.intToInt]
  · simp at hc

theorem sound_makeInterface {t : TypeId} {x : Operand} (ho : o.op = .makeInterface t x) (h : OK G E.an B0 st ρ σ a.tmps) (hs : Sub ρm ρ) (hc : core1 G E o ρm = some ups) (hf : Fit E.an ups) :
    OpGoal G E.an B0 st a o (apply ups ρ) σ := by
  simp only [core1, ho, Option.bind_eq_bind, Option.bind_eq_some_iff] at hc
  obtain ⟨p, hp, hc⟩ := hc
  split at hc
  · simp at hc
  · simp at hc
  · rename_i hn1 hn2
    simp at hc; obtain rfl := hc
    refine goal_plain h hf (c := .iface t (a.eval x)) ?_ (.iface _ _ _ (opv_rep h rfl hs hp))
    cases hu : G.P.underlying t with
    | none => exact absurd hu hn2
    | some d => cases d <;> simp [execOp, ho, Instr.makeInterface, run_underlying hu] <;> exact absurd hu (hn1 _)

theorem mapM_rep {an : Ann} {tmps : Array Value} (h : OK G an B0 st ρ σ tmps) (ha : a.tmps = tmps) (hs : Sub ρm ρ) {t : TypeId} : ∀ {l : List Operand} {vs : List AV}, l.mapM (opv G ρm t) = some vs → Reps st.w st.ext st.ι vs (l.map a.eval) := by
  intro l
  induction l with
  | nil => intro vs hv; simp at hv; subst hv; exact .nil
  | cons x l ih =>
    intro vs hv
    simp only [List.mapM_cons, Option.bind_eq_bind, Option.bind_eq_some_iff, Option.pure_def] at hv
    obtain ⟨v, h1, vs', h2, h3⟩ := hv
    simp at h3; subst h3
    exact .cons _ _ _ _ (opv_rep h ha hs h1) (ih h2)

theorem sound_makeFunc {fn : Fn} {fs cs : Array Operand} (ho : o.op = .makeFunc fn fs cs) (h : OK G E.an B0 st ρ σ a.tmps) (hs : Sub ρm ρ) (hc : core1 G E o ρm = some ups) (hf : Fit E.an ups) :
    OpGoal G E.an B0 st a o (apply ups ρ) σ := by
  cases fn <;> simp only [core1, ho, Option.bind_eq_bind, Option.bind_eq_some_iff] at hc <;> try (simp at hc; done)
  rename_i g
  obtain ⟨f', hf', c', hc', hc⟩ := hc
  simp at hc; obtain rfl := hc
  refine goal_plain h hf (c := .func (.func g) (fs.map a.eval) (cs.map a.eval)) (by simp [execOp, ho, Instr.makeFunc]) (.func _ _ _ _ _ ?_ ?_)
  · simpa using mapM_rep h rfl hs hf'
  · simpa using mapM_rep h rfl hs hc'

theorem sound_extract {x : Operand} {i : Nat} (ho : o.op = .extract x i) (h : OK G E.an B0 st ρ σ a.tmps) (hs : Sub ρm ρ) (hc : core1 G E o ρm = some ups) (hf : Fit E.an ups) :
    OpGoal G E.an B0 st a o (apply ups ρ) σ := by
  simp only [core1, ho, Option.bind_eq_bind, Option.bind_eq_some_iff] at hc
  obtain ⟨p, hp, hc⟩ := hc
  split at hc
  · rename_i vs
    rw [Option.bind_eq_some_iff] at hc
    obtain ⟨v, hv, hc⟩ := hc
    simp at hc; obtain rfl := hc
    have hr := opv_rep h rfl hs hp
    generalize he : a.eval x = ev at hr
    cases hr with
    | tuple _ us hus =>
      obtain ⟨c, hc1, hc2⟩ := hus.get hv
      refine goal_plain h hf (c := c) ?_ hc2
      have : us[i]? = some c := by simpa using hc1
      simp [execOp, ho, he, Instr.extract, this]
  · simp at hc

end Go.AI
