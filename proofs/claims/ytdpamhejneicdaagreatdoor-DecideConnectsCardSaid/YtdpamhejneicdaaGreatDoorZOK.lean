/- The seat's table is sound. -/
import Derived.Test.YtdpamhejneicdaaGreatDoorZTab
import Derived.Test.YtdpamhejneicdaaGreatDoorZGR
namespace Go.AI
set_option linter.unusedVariables false
set_option linter.unusedSimpArgs false
open Go

noncomputable def okOne (g : Nat) : Bool :=
  match (annL[g]?).getD none, (G.P.funcs[g]?) with
  | some an, some fn => (fn.name != "runtime.NumGoroutine") && (fn.ntmps == an.ntmps) && (match fn.body with | some c => regionsOK G an c | none => true)
  | _, _ => true

set_option maxRecDepth 100000
theorem ok_all : (List.range 385).filter (fun g => !okOne g) = [] := by kernel_rfl
theorem ann_len : annL.length = 385 := by kernel_rfl

theorem ok_one {g : Nat} {an : Ann} {fn : Func} (h : G.ann g = some an) (hf : G.P.funcs[g]? = some fn) : fn.name ≠ "runtime.NumGoroutine" ∧ fn.ntmps = an.ntmps ∧ ∀ c, fn.body = some c → regionsOK G an c = true := by
  have h' : (annL[g]?).getD none = some an := h
  have hg : g < 385 := by
    rcases Nat.lt_or_ge g 385 with h0 | h0
    · exact h0
    · rw [List.getElem?_eq_none (by rw [ann_len]; exact h0)] at h'; cases h'
  have hok : okOne g = true := by
    cases hc : okOne g with
    | true => rfl
    | false =>
      have : g ∈ (List.range 385).filter (fun g => !okOne g) := List.mem_filter.2 ⟨List.mem_range.2 hg, by simp [hc]⟩
      rw [ok_all] at this; cases this
  unfold okOne at hok
  rw [h', hf] at hok
  simp only [Bool.and_eq_true, bne_iff_ne, ne_eq, beq_iff_eq] at hok
  refine ⟨hok.1.1, hok.1.2, fun c hc => ?_⟩
  have := hok.2
  rw [hc] at this; exact this

theorem prgOK : PrgOK G where
  name := fun g an fn h hf => (ok_one h hf).1
  reg := fun g an fn c h hf hc => (ok_one h hf).2.2 c hc
  size := fun g an fn h hf => (ok_one h hf).2.1
  mixed := by kernel_rfl
  glob := fun g a h => by
    have h' : (if g = 0 then some (AV.iptr ([0, 0, 1, 2, 0, 1, 3, 0, 2, 3, 2, 1, 1, 0].map (AV.int .i64))) else none) = some a := h
    split at h'
    · simp only [Option.some.injEq] at h'
      subst h'; rfl
    · cases h'

def seqL : Code → Code | .seq a _ => a | c => c
def seqR : Code → Code | .seq _ b => b | c => c
def regOps : Code → Array Oper | .region _ o _ => o | _ => #[]
def thenOf : Code → Code | .cond _ a _ => a | c => c
noncomputable def cl : Code := bodyOf G 161
noncomputable def clf : Func := (G.P.funcs[161]?).getD default
noncomputable def clr1 : Code := seqL (seqL (seqR cl))
noncomputable def clo1 : Oper := ((regOps clr1)[0]?).getD default
noncomputable def clo2 : Oper := ((regOps clr1)[1]?).getD default
noncomputable def clE (n : Nat) : EE := { an := a161, fn := 161, base := n, round := none }
noncomputable def clρ0 (v : AV) : Env := forget (a161.outOf 0) (apply [(2, .val (.slice 1 []) [0])] (startEnv a161 [v]))
noncomputable def clρ1 (v : AV) : Env := apply [(3, .val v [])] (clρ0 v)

theorem primOK : PrimOK G := by
  intro g hg
  have hg' : g = 161 := by
    have : ([161] : List Nat).contains g = true := hg
    simpa using this
  subst hg'
  exact clone_sound prgOK (g := 161) (fn := clf) (an := a161) (r0 := seqL cl) (r2 := seqL (thenOf (seqR (seqL (seqR cl))))) (r3 := seqL (seqR (seqR cl))) (i1 := 1) (o1 := clo1) (o2 := clo2) (tt := 22) (e := 3) (d3 := 3) (d4 := 4)
    (by kernel_rfl) (by kernel_rfl) (by kernel_rfl) (by kernel_rfl) (by kernel_rfl) (by kernel_rfl) (by kernel_rfl) (by decide) (by decide) (by decide)
    clρ0 clρ1 (fun _ => mkEnv [(2, .val (.slice 1 []) [0])]) (fun v => mkEnv [(2, .val v [0])])
    (fun v σ => by kernel_rfl) (fun v σ => by kernel_rfl) (fun v => ⟨[], by kernel_rfl⟩) (fun v σ => by kernel_rfl)
    (fun sz es σ hsz hle => by
      subst hsz
      exact exec_of [.u] (obs := [decide (([] : List AV).length + es.length ≤ 4294967296) = true]) rfl (by kernel_rfl) ⟨by simpa using hle, trivial⟩)
    (fun sz σ hsz => by subst hsz; kernel_rfl) (fun sz es σ => by kernel_rfl)

theorem sound (n : Nat) : OrSound G n (F G n) := F_sound prgOK primOK n
end Go.AI

