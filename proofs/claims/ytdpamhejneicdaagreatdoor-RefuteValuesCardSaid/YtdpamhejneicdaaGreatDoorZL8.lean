/- RefuteValues: the tied card. -/
import Derived.Test.YtdpamhejneicdaaGreatDoorZF8
import Derived.Test.YtdpamhejneicdaaGreatDoorZC2
import Derived.Test.YtdpamhejneicdaaGreatDoorCards
import Derived.Test.YtdpamhejneicdaaGreatDoorTie
namespace Go.Proofs.YtdpamhejneicdaaGreatDoor
set_option linter.unusedVariables false
set_option linter.unusedSimpArgs false
open Go Go.AI Go.ChangeShapes Go.WideShapes Go.ChangeAt Go.RowKit

theorem u8_range {a : Int} (h : (Lit.int .u8 a).wf = true) : 0 ≤ a ∧ a < 256 := by
  have h' : IntKind.u8.min ≤ a ∧ a ≤ IntKind.u8.max := by simpa [Lit.wf] using h
  have h1 : IntKind.u8.min = 0 := by decide
  have h2 : IntKind.u8.max = 255 := by decide
  omega

set_option maxRecDepth 100000 in
theorem refuteValues_lifted (os : Os) (started : os.Started) (H : Type) (enc : TypeId × Value → H) :
    ReturnsInHanded {} Tryz.checked os 8 .any (fun w args => (Rows.refuteValuesSpec.pre enc Tryz.prog Tryz.f8 [] false w args ∧ laidMetH Tryz.prog laidL w) ∧ sizedMet enc Tryz.prog Tryz.f8 (OpenSpec.ofChange Rows.refuteValuesSpec) false w args)
      (Rows.refuteValuesSpec.post enc Tryz.prog Tryz.f8 false true false false) := by
  refine returnsInHanded_of_change_and (C := Tryz.checked) (X := fun w _ => laidMetH Tryz.prog laidL w) (fun _ _ _ hh h => h.of_heap hh) own started noInit8 Tryz.func8
    (ChangeSpec.witness_shaped (enc := enc) (C := Tryz.checked) (os := os) (X := fun w _ => laidMetH Tryz.prog laidL w) false (World.doorLaid Tryz.prog 400 os) #[.slice none 0 0, .int .u8 0, .int .u8 0] 8 rfl (World.shaped_of_RefB (by kernel_rfl) (by kernel_rfl)) (by kernel_rfl) (by kernel_rfl) (by kernel_rfl) (door_met os _)) ?_
  intro W base args ds gs before hval0 hW _ _ hL _
  have hval : ∀ (j : Nat) t v, Tryz.f8.params[j]? = some t → args[j]? = some v → Value.okWide Tryz.prog W .any base t v := hval0
  have hW' := hW
  obtain ⟨p, q, hA0, hV, rfl, hfz, hnd⟩ := hW
  have hA : DataW.TrodAll enc Tryz.prog W 0 (fun _ => true) true Tryz.f8.params.toList args.toList ds p := hA0
  obtain ⟨rfl, rfl⟩ := trodVars_none hV
  simp only [List.append_nil] at hW'
  have hA' := hA
  rw [Tryz.params8] at hA'
  rw [Tryz.params8] at hval
  obtain ⟨v0, v1, v2, d0, d1, d2, p0, p1, p2, rfl, rfl, rfl, h0, h1, h2⟩ := trodAll_three hA'
  obtain ⟨a0, len, cap, rfl⟩ := okWide_slice u22 (hval 0 22 v0 rfl rfl)
  obtain ⟨a, rfl, rfl, rfl, wa⟩ := open_int u5 (hval 1 5 v1 rfl rfl) h1
  obtain ⟨b, rfl, rfl, rfl, wb⟩ := open_int u5 (hval 2 5 v2 rfl rfl) h2
  obtain ⟨fuel, hf⟩ := h0
  obtain ⟨zs, hlen, hwf, hrep⟩ := rep_ints u22 u3 c3 hf
  have hcall := call_true (law8 zs a b (u8_range wa) (u8_range wb)) (W := W) (vs := #[.slice a0 len cap, .int .u8 a, .int .u8 b]) (cells_get hL)
    (.cons _ _ _ _ hrep (.cons _ _ _ _ (.int .u8 a) (.cons _ _ _ _ (.int .u8 b) .nil)))
  refine hcall.mono fun e W' ⟨he, hb⟩ => ?_
  subst he
  exact ⟨_, rfl, post_true rfl hW' hA (by rw [Tryz.params8]; decide +kernel) (by kernel_rfl) rfl hb⟩

theorem refuteValues_row : Rows.RefuteValuesSaid :=
  OpenClaim.holds_of_wide 8 Tryz.f8 rfl rfl rfl rfl rfl rfl rfl ⟨rfl, rfl, rfl, rfl, rfl⟩ rfl rfl rfl rfl rfl fname8 Tryz.func8 closed8 inst8 wrap8
    (fun os started H enc _ => refuteValues_lifted os started H enc)

theorem wants8 (j : Nat) (t : TypeId) (h : Tryz.f8.params[j]? = some t) : Tryz.prog.wantsStandIn t = false := by
  rw [Tryz.params8] at h
  match j, h with
  | 0, h => obtain rfl := Option.some.inj h; exact want22
  | 1, h => obtain rfl := Option.some.inj h; exact want5
  | 2, h => obtain rfl := Option.some.inj h; exact want5
  | n + 3, h => cases h

theorem refuteValues_holds : Rows.RefuteValuesCardSaid :=
  Claim7.holds_tied_plain_at .later [] [.data] true (true, "118043afbedc393be800c94be9d176b3ad0f46a66881a1a20e99dd690caf24ae") true
    refuteValues_row (fun _ h => by cases h) wfText8 (fun _ h => by cases h) refuteValues_row_tie rfl ⟨rfl, rfl⟩ mainIs0 rfl
    (fun f fn hf hfn => by
      obtain rfl : f = 8 := Option.some.inj (fname8.symm.trans hf) |>.symm
      obtain rfl : fn = Tryz.f8 := (Option.some.inj (Tryz.func8.symm.trans hfn)).symm
      exact ⟨looks0, wants8⟩)
    goes8
#print axioms refuteValues_holds
end Go.Proofs.YtdpamhejneicdaaGreatDoor
