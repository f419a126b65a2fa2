/- The card of RankOrder, out of its contract. -/
import Derived.Test.YtbekdlgkoleblaaDoorV5
import Derived.Test.YtbekdlgkoleblaaDoorL5a
namespace Go.Proofs.YtbekdlgkoleblaaDoor
open Go.ChangeShapes Go.WideShapes Go.ChangeAt Go.RowKit
set_option linter.unusedVariables false

theorem rankOrder_law : ∀ ps : List PV, ArgsTy Tryd.prog 9 Tryd.f4.params.toList ps → ∀ gl, PCalls Tryd.prog 4 (ps.map .pv) gl fun r _ => r = .pv (.bool true) := by
  intro ps hps gl
  obtain ⟨a, b, c, rfl, ha, hb, hc⟩ := args_3 (t := 29) (u := 29) (v := 29) hps
  obtain ⟨ca, rfl, qa⟩ := arg_struct ha (s := shE) (by kernel_rfl) (by kernel_rfl)
  obtain ⟨la, rfl, wa⟩ := hasSh_cells qa
  obtain ⟨cb, rfl, qb⟩ := arg_struct hb (s := shE) (by kernel_rfl) (by kernel_rfl)
  obtain ⟨lb, rfl, wb⟩ := hasSh_cells qb
  obtain ⟨cc, rfl, qc⟩ := arg_struct hc (s := shE) (by kernel_rfl) (by kernel_rfl)
  obtain ⟨lc, rfl, wc⟩ := hasSh_cells qc
  exact order_ok la lb lc wa wb wc gl

theorem rankOrder_lifted (os : Os) (started : os.Started) (H : Type) (enc : TypeId × Value → H) :
    ReturnsInHanded {} Tryd.checked os 4 .any (fun w args => (Rows.rankOrderSpec.pre enc Tryd.prog Tryd.f4 [] false w args ∧ laidMetH Tryd.prog laidL w) ∧ sizedMet enc Tryd.prog Tryd.f4 (OpenSpec.ofChange Rows.rankOrderSpec) false w args) (Rows.rankOrderSpec.post enc Tryd.prog Tryd.f4 false true false false) := by
  refine law_lifted_laid (C := Tryd.checked) (tb := 4) 9 (laidMetH Tryd.prog laidL) (fun _ _ hh h => h.of_heap hh) (fun _ h => tab_of_laid h) lawOwn started (by kernel_rfl) Tryd.func4 lawLaid (by kernel_rfl) (by kernel_rfl) ?_ rfl ?_ ?_ rankOrder_law
  · decide +kernel
  · intro ds hd
    match ds, hd with
    | [a, b, c], _ => exact ⟨rfl, rfl, rfl⟩
  · exact ChangeSpec.witness_shaped (enc := enc) (C := Tryd.checked) (os := os) (X := fun w _ => laidMetH Tryd.prog laidL w) false (World.doorLaid Tryd.prog 400 os) #[.agg #[.int .i64 0, .int .i64 0], .agg #[.int .i64 0, .int .i64 0], .agg #[.int .i64 0, .int .i64 0]] 8 rfl (World.shaped_of_RefB (by kernel_rfl) (by kernel_rfl)) (by kernel_rfl) (by kernel_rfl) (by kernel_rfl) (door_met os _)

theorem rankOrder_said : Rows.RankOrderSaid :=
  OpenClaim.holds_of_wide 4 Tryd.f4 rfl rfl rfl rfl rfl rfl rfl ⟨rfl, rfl, rfl, rfl, rfl⟩ rfl rfl rfl rfl rfl (by kernel_rfl) Tryd.func4 (by kernel_rfl)
    (of_decide_eq_true (by kernel_rfl)) (by unfold Func.isWrapper; rw [if_neg (of_decide_eq_false (by kernel_rfl))]; exact ⟨rfl, rfl⟩)
    (fun os started H enc _ => rankOrder_lifted os started H enc)

theorem rankOrder_card : Rows.RankOrderCardSaid :=
  Claim7.holds_tied_plain_at .later [] [.data, .data, .data] true (true, "94fceb64c30785ffa1842027790d430edaf42a825b37b30cf96a6c93c1583922") false
    rankOrder_said (fun _ h => by cases h) (by kernel_rfl) (fun _ h => by cases h) rankOrder_row_tie rfl ⟨rfl, rfl⟩ (by kernel_rfl) rfl
    (fun f fn hf hfn => by
      obtain rfl : f = 4 := Option.some.inj ((show Tryd.prog.funcNamed "slagheap/slagheaplaw05.RankOrder" = some 4 by kernel_rfl).symm.trans hf) |>.symm
      obtain rfl : fn = Tryd.f4 := (Option.some.inj (Tryd.func4.symm.trans hfn)).symm
      exact ⟨by kernel_rfl, fun j t ht => by
        have h3 : t ∈ Tryd.f4.params.toList := by
          have := Array.mem_of_getElem? ht
          exact Array.mem_toList_iff.2 this
        exact (by decide +kernel : ∀ t ∈ Tryd.f4.params.toList, Tryd.prog.wantsStandIn t = false) t h3⟩)
    (by kernel_rfl)

end Go.Proofs.YtbekdlgkoleblaaDoor
