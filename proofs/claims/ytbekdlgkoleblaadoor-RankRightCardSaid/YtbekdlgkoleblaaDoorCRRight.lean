/- The card of RankRight, out of its contract. -/
import Derived.Test.YtbekdlgkoleblaaDoorV6
import Derived.Test.YtbekdlgkoleblaaDoorL5f
namespace Go.Proofs.YtbekdlgkoleblaaDoor
open Go.ChangeShapes Go.WideShapes Go.ChangeAt Go.RowKit
set_option linter.unusedVariables false

theorem rankRight_law : ∀ ps : List PV, ArgsTy Tryd.prog 9 Tryd.f3.params.toList ps → ∀ gl, PCalls Tryd.prog 3 (ps.map .pv) gl fun r _ => r = .pv (.bool true) := by
  intro ps hps gl
  obtain ⟨a, b, c, rfl, ha, hb, hc⟩ := args_3 (t := 22) (u := 23) (v := 5) hps
  obtain ⟨la, rfl, na, wa⟩ := hasSh_els (arg_one ha (by kernel_rfl) (by kernel_rfl))
  obtain ⟨lb, rfl, nb⟩ := hasSh_bools (arg_one hb (by kernel_rfl) (by kernel_rfl))
  obtain ⟨lc, rfl, wc⟩ := hasSh_int (k := .u8) (arg_one hc (by kernel_rfl) (by kernel_rfl))
  exact right_ok la lb lc (by simpa [maxLen] using na) nb (u8_wf wc) wa gl

theorem rankRight_lifted (os : Os) (started : os.Started) (H : Type) (enc : TypeId × Value → H) :
    ReturnsInHanded {} Tryd.checked os 3 .any (fun w args => (Rows.rankRightSpec.pre enc Tryd.prog Tryd.f3 [] false w args ∧ laidMetH Tryd.prog laidL w) ∧ sizedMet enc Tryd.prog Tryd.f3 (OpenSpec.ofChange Rows.rankRightSpec) false w args) (Rows.rankRightSpec.post enc Tryd.prog Tryd.f3 false true false false) := by
  refine law_lifted_laid (C := Tryd.checked) (tb := 4) 9 (laidMetH Tryd.prog laidL) (fun _ _ hh h => h.of_heap hh) (fun _ h => tab_of_laid h) lawOwn started (by kernel_rfl) Tryd.func3 lawLaid (by kernel_rfl) (by kernel_rfl) ?_ rfl ?_ ?_ rankRight_law
  · decide +kernel
  · intro ds hd
    match ds, hd with
    | [a, b, c], _ => exact ⟨rfl, rfl, rfl⟩
  · exact ChangeSpec.witness_shaped (enc := enc) (C := Tryd.checked) (os := os) (X := fun w _ => laidMetH Tryd.prog laidL w) false (World.doorLaid Tryd.prog 400 os) #[.slice none 0 0, .slice none 0 0, .int .u8 0] 8 rfl (World.shaped_of_RefB (by kernel_rfl) (by kernel_rfl)) (by kernel_rfl) (by kernel_rfl) (by kernel_rfl) (door_met os _)

theorem rankRight_said : Rows.RankRightSaid :=
  OpenClaim.holds_of_wide 3 Tryd.f3 rfl rfl rfl rfl rfl rfl rfl ⟨rfl, rfl, rfl, rfl, rfl⟩ rfl rfl rfl rfl rfl (by kernel_rfl) Tryd.func3 (by kernel_rfl)
    (of_decide_eq_true (by kernel_rfl)) (by unfold Func.isWrapper; rw [if_neg (of_decide_eq_false (by kernel_rfl))]; exact ⟨rfl, rfl⟩)
    (fun os started H enc _ => rankRight_lifted os started H enc)

theorem rankRight_card : Rows.RankRightCardSaid :=
  Claim7.holds_tied_plain_at .later [] [.data, .data, .data] true (true, "94fceb64c30785ffa1842027790d430edaf42a825b37b30cf96a6c93c1583922") false
    rankRight_said (fun _ h => by cases h) (by kernel_rfl) (fun _ h => by cases h) rankRight_row_tie rfl ⟨rfl, rfl⟩ (by kernel_rfl) rfl
    (fun f fn hf hfn => by
      obtain rfl : f = 3 := Option.some.inj ((show Tryd.prog.funcNamed "slagheap/slagheaplaw05.RankRight" = some 3 by kernel_rfl).symm.trans hf) |>.symm
      obtain rfl : fn = Tryd.f3 := (Option.some.inj (Tryd.func3.symm.trans hfn)).symm
      exact ⟨by kernel_rfl, fun j t ht => by
        have h3 : t ∈ Tryd.f3.params.toList := by
          have := Array.mem_of_getElem? ht
          exact Array.mem_toList_iff.2 this
        exact (by decide +kernel : ∀ t ∈ Tryd.f3.params.toList, Tryd.prog.wantsStandIn t = false) t h3⟩)
    (by kernel_rfl)

end Go.Proofs.YtbekdlgkoleblaaDoor
