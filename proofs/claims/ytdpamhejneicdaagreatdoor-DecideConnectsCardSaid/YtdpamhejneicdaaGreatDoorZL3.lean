/- DecideConnects: the tied card. -/
import Derived.Test.YtdpamhejneicdaaGreatDoorZF3
import Derived.Test.YtdpamhejneicdaaGreatDoorZH23
import Derived.Test.YtdpamhejneicdaaGreatDoorCards
import Derived.Test.YtdpamhejneicdaaGreatDoorTie
namespace Go.Proofs.YtdpamhejneicdaaGreatDoor
set_option linter.unusedVariables false
set_option linter.unusedSimpArgs false
open Go Go.AI Go.ChangeShapes Go.WideShapes Go.ChangeAt Go.RowKit

set_option maxRecDepth 100000 in
theorem decideConnects_lifted (os : Os) (started : os.Started) (H : Type) (enc : TypeId × Value → H) :
    ReturnsInHanded {} Tryz.checked os 3 .any (fun w args => (Rows.decideConnectsSpec.pre enc Tryz.prog Tryz.f3 [] false w args ∧ laidMetH Tryz.prog laidL w) ∧ sizedMet enc Tryz.prog Tryz.f3 (OpenSpec.ofChange Rows.decideConnectsSpec) false w args)
      (Rows.decideConnectsSpec.post enc Tryz.prog Tryz.f3 false true false false) := by
  refine returnsInHanded_of_change_and (C := Tryz.checked) (X := fun w _ => laidMetH Tryz.prog laidL w) (fun _ _ _ hh h => h.of_heap hh) own started noInit3 Tryz.func3
    (ChangeSpec.witness_shaped (enc := enc) (C := Tryz.checked) (os := os) (X := fun w _ => laidMetH Tryz.prog laidL w) false (World.doorLaid Tryz.prog 400 os) #[.slice none 0 0] 3 rfl (World.shaped_of_RefB (by kernel_rfl) (by kernel_rfl)) (by kernel_rfl) (by kernel_rfl) (by kernel_rfl) (door_met os _)) ?_
  intro W base args ds gs before hval0 hW _ _ hL _
  have hval : ∀ (j : Nat) t v, Tryz.f3.params[j]? = some t → args[j]? = some v → Value.okWide Tryz.prog W .any base t v := hval0
  have hW' := hW
  obtain ⟨p, q, hA0, hV, rfl, hfz, hnd⟩ := hW
  have hA : DataW.TrodAll enc Tryz.prog W 0 (fun _ => true) true Tryz.f3.params.toList args.toList ds p := hA0
  obtain ⟨rfl, rfl⟩ := trodVars_none hV
  simp only [List.append_nil] at hW'
  have hA' := hA
  rw [Tryz.params3] at hA'
  rw [Tryz.params3] at hval
  obtain ⟨v0, d0, rfl, rfl, h0⟩ := trodAll_one hA'
  obtain ⟨a0, len, cap, rfl⟩ := okWide_slice u22 (hval 0 22 v0 rfl rfl)
  obtain ⟨fuel, hf⟩ := h0
  obtain ⟨zs, hlen, hwf, hrep⟩ := rep_ints u22 u3 c3 hf
  have hcall := call_true (law3 zs) (W := W) (vs := #[.slice a0 len cap]) (cells_get hL)
    (.cons _ _ _ _ hrep .nil)
  refine hcall.mono fun e W' ⟨he, hb⟩ => ?_
  subst he
  exact ⟨_, rfl, post_true rfl hW' hA (by rw [Tryz.params3]; decide +kernel) (by kernel_rfl) rfl hb⟩

theorem decideConnects_row : Rows.DecideConnectsSaid :=
  OpenClaim.holds_of_wide 3 Tryz.f3 rfl rfl rfl rfl rfl rfl rfl ⟨rfl, rfl, rfl, rfl, rfl⟩ rfl rfl rfl rfl rfl fname3 Tryz.func3 closed3 inst3 wrap3
    (fun os started H enc _ => decideConnects_lifted os started H enc)

theorem wants3 (j : Nat) (t : TypeId) (h : Tryz.f3.params[j]? = some t) : Tryz.prog.wantsStandIn t = false := by
  rw [Tryz.params3] at h
  match j, h with
  | 0, h => obtain rfl := Option.some.inj h; exact want22
  | n + 1, h => cases h

theorem decideConnects_holds : Rows.DecideConnectsCardSaid :=
  Claim7.holds_tied_plain_at .later [] [.data] true (true, "118043afbedc393be800c94be9d176b3ad0f46a66881a1a20e99dd690caf24ae") true
    decideConnects_row (fun _ h => by cases h) wfText3 (fun _ h => by cases h) decideConnects_row_tie rfl ⟨rfl, rfl⟩ mainIs0 rfl
    (fun f fn hf hfn => by
      obtain rfl : f = 3 := Option.some.inj (fname3.symm.trans hf) |>.symm
      obtain rfl : fn = Tryz.f3 := (Option.some.inj (Tryz.func3.symm.trans hfn)).symm
      exact ⟨looks0, wants3⟩)
    goes3
#print axioms decideConnects_holds
end Go.Proofs.YtdpamhejneicdaaGreatDoor

