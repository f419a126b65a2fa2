/- The card of RankNone, out of its contract. -/
import Derived.Test.YtbekdlgkoleblaaDoorV5
import Derived.Test.YtbekdlgkoleblaaDoorL5g
namespace Go.Proofs.YtbekdlgkoleblaaDoor
open Go.ChangeShapes Go.WideShapes Go.ChangeAt Go.RowKit
set_option linter.unusedVariables false

theorem rankNone_law : ∀ ps : List PV, ArgsTy Tryd.prog 9 Tryd.f6.params.toList ps → ∀ gl, PCalls Tryd.prog 6 (ps.map .pv) gl fun r _ => r = .pv (.bool true) := by
  intro ps hps gl
  obtain ⟨a, b, rfl, ha, hb⟩ := args_2 (t := 29) (u := 29) hps
  obtain ⟨ca, rfl, qa⟩ := arg_struct ha (s := shE) (by kernel_rfl) (by kernel_rfl)
  obtain ⟨la, rfl, wa⟩ := hasSh_cells qa
  obtain ⟨cb, rfl, qb⟩ := arg_struct hb (s := shE) (by kernel_rfl) (by kernel_rfl)
  obtain ⟨lb, rfl, wb⟩ := hasSh_cells qb
  exact none_ok la lb wa wb gl

theorem rankNone_lifted (os : Os) (started : os.Started) (H : Type) (enc : TypeId × Value → H) :
    ReturnsInHanded {} Tryd.checked os 6 .any (fun w args => (Rows.rankNoneSpec.pre enc Tryd.prog Tryd.f6 [] false w args ∧ laidMetH Tryd.prog laidL w) ∧ sizedMet enc Tryd.prog Tryd.f6 (OpenSpec.ofChange Rows.rankNoneSpec) false w args) (Rows.rankNoneSpec.post enc Tryd.prog Tryd.f6 false true false false) := by
  refine law_lifted_laid (C := Tryd.checked) (tb := 4) 9 (laidMetH Tryd.prog laidL) (fun _ _ hh h => h.of_heap hh) (fun _ h => tab_of_laid h) lawOwn started (by kernel_rfl) Tryd.func6 lawLaid (by kernel_rfl) (by kernel_rfl) ?_ rfl ?_ ?_ rankNone_law
  · decide +kernel
  · intro ds hd
    match ds, hd with
    | [a, b], _ => exact ⟨rfl, rfl, rfl⟩
  · exact ChangeSpec.witness_shaped (enc := enc) (C := Tryd.checked) (os := os) (X := fun w _ => laidMetH Tryd.prog laidL w) false (World.doorLaid Tryd.prog 400 os) #[.agg #[.int .i64 0, .int .i64 0], .agg #[.int .i64 0, .int .i64 0]] 8 rfl (World.shaped_of_RefB (by kernel_rfl) (by kernel_rfl)) (by kernel_rfl) (by kernel_rfl) (by kernel_rfl) (door_met os _)

theorem rankNone_said : Rows.RankNoneSaid :=
  OpenClaim.holds_of_wide 6 Tryd.f6 rfl rfl rfl rfl rfl rfl rfl ⟨rfl, rfl, rfl, rfl, rfl⟩ rfl rfl rfl rfl rfl (by kernel_rfl) Tryd.func6 (by kernel_rfl)
    (of_decide_eq_true (by kernel_rfl)) (by unfold Func.isWrapper; rw [if_neg (of_decide_eq_false (by kernel_rfl))]; exact ⟨rfl, rfl⟩)
    (fun os started H enc _ => rankNone_lifted os started H enc)

theorem rankNone_card : Rows.RankNoneCardSaid :=
  Claim7.holds_tied_plain_at .later [] [.data, .data, .data] true (true, "94fceb64c30785ffa1842027790d430edaf42a825b37b30cf96a6c93c1583922") false
    rankNone_said (fun _ h => by cases h) (by kernel_rfl) (fun _ h => by cases h) rankNone_row_tie rfl ⟨rfl, rfl⟩ (by kernel_rfl) rfl
    (fun f fn hf hfn => by
      obtain rfl : f = 6 := Option.some.inj ((show Tryd.prog.funcNamed "slagheap/slagheaplaw05.RankNone" = some 6 by kernel_rfl).symm.trans hf) |>.symm
      obtain rfl : fn = Tryd.f6 := (Option.some.inj (Tryd.func6.symm.trans hfn)).symm
      exact ⟨by kernel_rfl, fun j t ht => by
        have h3 : t ∈ Tryd.f6.params.toList := by
          have := Array.mem_of_getElem? ht
          exact Array.mem_toList_iff.2 this
        exact (by decide +kernel : ∀ t ∈ Tryd.f6.params.toList, Tryd.prog.wantsStandIn t = false) t h3⟩)
    (by kernel_rfl)

end Go.Proofs.YtbekdlgkoleblaaDoor
