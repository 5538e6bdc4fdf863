/- The abstract machine: slices in private rows: length, elements, cuts. -/
import Derived.Test.YtdpamhejneicdaaGreatDoorZAIB
namespace Go.AI
set_option linter.unusedVariables false
set_option linter.unusedSimpArgs false
open Go

variable {G : Prg} {an : Ann} {E : EE} {B0 : Nat → Prop} {st : St} {ρ ρm : Env} {σ σ' : Sig} {ups : List (Nat × Slot)} {a : Act} {o : Oper} {tmps : Array Value} {ops : Array Oper}

theorem sound_arr_len {args : Array Operand} {tys : Array TypeId} (ho : o.op = .call { callee := .builtin .len, args := args, argTypes := tys }) (h : OK G E.an B0 st ρ σ a.tmps) (hs : Sub ρm ρ) (hc : arrOp G E o ρm = some (some ups)) (hf : Fit E.an ups) :
    OpGoal G E.an B0 st a o (apply ups ρ) σ := by
  simp only [arrOp, ho] at hc
  split at hc
  · rename_i x hx
    split at hc
    · rename_i s n hl
      obtain ⟨t, rfl, hρ⟩ := larrOf_spec hs hl
      obtain ⟨k1, sz, es, k2, k3⟩ := larr_slot h hρ
      split at hc
      · rename_i e hu
        rw [Option.bind_eq_some_iff] at hu
        obtain ⟨ty, hty, hu⟩ := hu
        simp at hc; subst hc
        have he : a.eval (.tmp t) = .slice (some ⟨st.L.β s, 0, none⟩) n (st.L.κ s) := k1
        have hx' : (args.map a.eval)[0]? = some (a.eval (.tmp t)) := by rw [Array.getElem?_map, hx]; rfl
        rw [he] at hx'
        refine goal_plain h hf (c := .int .i64 n) ?_ (.int _ _)
        simp only [execOp, ho, resolve, invoke, builtin, Sem.run_bind, Sem.run_pure, Result.andThen_ok, Deferred.target, Builtin.len_, hty, hx', run_underlying hu]
        rfl
      · simp at hc
    · simp at hc
  · simp at hc

theorem sound_arr_indexAddr {t : TypeId} {x i : Operand} (ho : o.op = .indexAddr t x i) (h : OK G E.an B0 st ρ σ a.tmps) (hs : Sub ρm ρ) (hc : arrOp G E o ρm = some (some ups)) (hf : Fit E.an ups) :
    OpGoal G E.an B0 st a o (apply ups ρ) σ := by
  simp only [arrOp, ho] at hc
  split at hc
  · rename_i s n hl
    obtain ⟨tt, rfl, hρ⟩ := larrOf_spec hs hl
    obtain ⟨k1, sz, es, k2, k3⟩ := larr_slot h hρ
    simp only [Option.some.injEq, Option.bind_eq_bind, Option.bind_eq_some_iff] at hc
    obtain ⟨iv, hiv, hc⟩ := hc
    split at hc
    · rename_i sz' es' e k m hm hu
      have hm' := hs.val hm (by simp)
      rw [k2] at hm'
      cases hm'
      split at hc
      · rename_i hcond
        obtain ⟨c1, c2, c3, c4⟩ := hcond
        simp at hc; subst hc
        have hi := rep_int_inv (opv_rep h rfl hs hiv)
        have he : a.eval (.tmp tt) = .slice (some ⟨st.L.β s, 0, none⟩) n (st.L.κ s) := k1
        refine goal_lptr h hf (by rw [k2]; rfl) ?_
        have hl : m < (n : Int) := by omega
        have hinfo := info_of_cells (P := G.P) (t := e) (by omega)
        simp [execOp, ho, he, hi, Instr.indexAt, asIntOf, run_underlying hu, c1, hl, sizeOf_run _ hinfo, addr_add, c3]
      · simp at hc
    · simp at hc
  · simp at hc

theorem sound_arr_slice {t : TypeId} {x : Operand} {lo hi mx : Option Operand} (ho : o.op = .slice t x lo hi mx) (h : OK G E.an B0 st ρ σ a.tmps) (hs : Sub ρm ρ) (hc : arrOp G E o ρm = some (some ups)) (hf : Fit E.an ups) :
    OpGoal G E.an B0 st a o (apply ups ρ) σ := by
  simp only [arrOp, ho] at hc
  split at hc
  · rename_i s n hl
    obtain ⟨tt, rfl, hρ⟩ := larrOf_spec hs hl
    obtain ⟨k1, sz, es, k2, k3⟩ := larr_slot h hρ
    simp only [Option.some.injEq, Option.bind_eq_bind] at hc
    split at hc
    · rename_i sz' es' e y hm hu
      have hm' := hs.val hm (by simp)
      rw [k2] at hm'
      cases hm'
      rw [Option.bind_eq_some_iff] at hc
      obtain ⟨iv, hiv, hc⟩ := hc
      split at hc
      · rename_i k m
        split at hc
        · rename_i hcond
          obtain ⟨c1, c2, c3, c4⟩ := hcond
          simp at hc; subst hc
          have hi := rep_int_inv (opv_rep h rfl hs hiv)
          have he : a.eval (.tmp tt) = .slice (some ⟨st.L.β s, 0, none⟩) n (st.L.κ s) := k1
          have hcap := (arr_slot h k2).2.1
          have hinfo := info_of_cells (P := G.P) (t := e) (by omega)
          have hsize : (sizeOf e).run G.P st.w = .ok sz st.w := by rw [c3]; exact sizeOf_run _ hinfo
          have hb : (Instr.sliceBounds true n (st.L.κ s) none (some (.int k m)) none).run G.P st.w = .ok (0, m.toNat, st.L.κ s) st.w := by
            simp [Instr.sliceBounds, bound_run c1 (show m.toNat ≤ st.L.κ s by omega)]
          refine goal_larr h hf k2 (Nat.le_trans c2 k3) ?_
          simp [execOp, ho, he, hi, Instr.sliceAt, Instr.slice, run_underlying hu, hb, hsize, addr_add]
        · simp at hc
      · simp at hc
    · simp at hc
  · simp at hc

theorem sound_arr_load {t : TypeId} {x : Operand} (ho : o.op = .load t x) (h : OK G E.an B0 st ρ σ a.tmps) (hs : Sub ρm ρ) (hc : arrOp G E o ρm = some (some ups)) (hf : Fit E.an ups) :
    OpGoal G E.an B0 st a o (apply ups ρ) σ := by
  simp only [arrOp, ho] at hc
  split at hc
  · rename_i s off hp
    split at hc
    · rename_i sz es hm
      have hm' := hs.val hm (by simp)
      obtain ⟨he, hl⟩ := ptrOf_loc h rfl hs hp
      obtain ⟨k1, k2, k3, k4, vs, e, k5, k6, k7, k8⟩ := arr_slot h hm'
      simp only [Option.some.injEq] at hc
      split at hc
      · simp at hc
      · rename_i hty
        have hty : tyOk G.P t = true := eq_true_of_ne_false hty
        rw [Option.map_eq_some_iff] at hc
        obtain ⟨v, hv, rfl⟩ := hc
        obtain ⟨c, hl, hrep, _⟩ := loadVar_run (P := G.P) st.w (st.L.β s) 0 hty k7 (fun y hy => k8 y (List.mem_of_mem_take hy)) (fun i y hy => by
          rw [cell_row k5, Nat.zero_add]
          have hlt := (List.getElem?_eq_some_iff.1 hy).1
          rw [List.getElem?_take_of_lt (by simp at hlt; omega)] at hy
          simpa using hy) off hv
        rw [Nat.zero_add] at hl
        exact goal_plain h hf (by simp [execOp, ho, he, Instr.loadAt, Instr.sureAddr, hl]) hrep
    · simp at hc
  · simp at hc

end Go.AI
