/- The card of LeftistPlays, out of its contract. -/
import Derived.Test.YtgbcjpdhmjikgaaDoorV2
import Derived.Test.YtgbcjpdhmjikgaaDoorL6k
namespace Go.Proofs.YtgbcjpdhmjikgaaDoor
open Go.ChangeShapes Go.WideShapes Go.ChangeAt Go.RowKit
set_option linter.unusedVariables false

theorem leftistPlays_law : ∀ ps : List PV, ArgsTy Tryd.prog 9 Tryd.f12.params.toList ps → ∀ gl, PCalls Tryd.prog 12 (ps.map .pv) gl fun r _ => r = .pv (.bool true) := by
  intro ps hps gl
  obtain ⟨a, rfl, ha⟩ := args_1 (t := 34) hps
  obtain ⟨la, rfl, na, wa⟩ := hasSh_acts (arg_one ha (by kernel_rfl) (by kernel_rfl))
  exact plays_ok la na wa gl

theorem leftistPlays_lifted (os : Os) (started : os.Started) (H : Type) (enc : TypeId × Value → H) :
    ReturnsInHanded {} Tryd.checked os 12 .any (fun w args => (Rows.leftistPlaysSpec.pre enc Tryd.prog Tryd.f12 [] false w args ∧ laidMetH Tryd.prog laidL w) ∧ sizedMet enc Tryd.prog Tryd.f12 (OpenSpec.ofChange Rows.leftistPlaysSpec) false w args) (Rows.leftistPlaysSpec.post enc Tryd.prog Tryd.f12 false true false false) := by
  refine law_lifted_laid (C := Tryd.checked) (tb := 4) 9 (laidMetH Tryd.prog laidL) (fun _ _ hh h => h.of_heap hh) (fun _ h => tab_of_laid h) lawOwn started (by kernel_rfl) Tryd.func12 lawLaid (by kernel_rfl) (by kernel_rfl) ?_ rfl ?_ ?_ leftistPlays_law
  · decide +kernel
  · intro ds hd
    match ds, hd with
    | [a], _ => exact ⟨rfl, rfl, rfl⟩
  · exact ChangeSpec.witness_shaped (enc := enc) (C := Tryd.checked) (os := os) (X := fun w _ => laidMetH Tryd.prog laidL w) false (World.doorLaid Tryd.prog 400 os) #[.slice none 0 0] 8 rfl (World.shaped_of_RefB (by kernel_rfl) (by kernel_rfl)) (by kernel_rfl) (by kernel_rfl) (by kernel_rfl) (door_met os _)

theorem leftistPlays_said : Rows.LeftistPlaysSaid :=
  OpenClaim.holds_of_wide 12 Tryd.f12 rfl rfl rfl rfl rfl rfl rfl ⟨rfl, rfl, rfl, rfl, rfl⟩ rfl rfl rfl rfl rfl (by kernel_rfl) Tryd.func12 (by kernel_rfl)
    (of_decide_eq_true (by kernel_rfl)) (by unfold Func.isWrapper; rw [if_neg (of_decide_eq_false (by kernel_rfl))]; exact ⟨rfl, rfl⟩)
    (fun os started H enc _ => leftistPlays_lifted os started H enc)

theorem leftistPlays_card : Rows.LeftistPlaysCardSaid :=
  Claim7.holds_tied_plain_at .later [] [.data, .data, .data] true (true, "6e0cab088418825bea1f7e80a6de4da1f6217aec4f6b475d4e979d05c2a222c6") false
    leftistPlays_said (fun _ h => by cases h) (by kernel_rfl) (fun _ h => by cases h) leftistPlays_row_tie rfl ⟨rfl, rfl⟩ (by kernel_rfl) rfl
    (fun f fn hf hfn => by
      obtain rfl : f = 12 := Option.some.inj ((show Tryd.prog.funcNamed "slagheap/slagheaplaw06.LeftistPlays" = some 12 by kernel_rfl).symm.trans hf) |>.symm
      obtain rfl : fn = Tryd.f12 := (Option.some.inj (Tryd.func12.symm.trans hfn)).symm
      exact ⟨by kernel_rfl, fun j t ht => by
        have h3 : t ∈ Tryd.f12.params.toList := by
          have := Array.mem_of_getElem? ht
          exact Array.mem_toList_iff.2 this
        exact (by decide +kernel : ∀ t ∈ Tryd.f12.params.toList, Tryd.prog.wantsStandIn t = false) t h3⟩)
    (by kernel_rfl)

end Go.Proofs.YtgbcjpdhmjikgaaDoor
