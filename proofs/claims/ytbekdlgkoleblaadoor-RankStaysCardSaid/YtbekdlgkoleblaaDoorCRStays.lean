/- The card of RankStays, out of its contract. -/
import Derived.Test.YtbekdlgkoleblaaDoorV5
import Derived.Test.YtbekdlgkoleblaaDoorL5t
namespace Go.Proofs.YtbekdlgkoleblaaDoor
open Go.ChangeShapes Go.WideShapes Go.ChangeAt Go.RowKit
set_option linter.unusedVariables false

theorem rankStays_law : ∀ ps : List PV, ArgsTy Tryd.prog 9 Tryd.f7.params.toList ps → ∀ gl, PCalls Tryd.prog 7 (ps.map .pv) gl fun r _ => r = .pv (.bool true) := by
  intro ps hps gl
  obtain ⟨a, b, rfl, ha, hb⟩ := args_2 (t := 22) (u := 29) hps
  obtain ⟨la, rfl, na, wa⟩ := hasSh_els (arg_one ha (by kernel_rfl) (by kernel_rfl))
  obtain ⟨cb, rfl, qb⟩ := arg_struct hb (s := shE) (by kernel_rfl) (by kernel_rfl)
  obtain ⟨lb, rfl, wb⟩ := hasSh_cells qb
  exact stays_ok la lb na wa wb gl

theorem rankStays_lifted (os : Os) (started : os.Started) (H : Type) (enc : TypeId × Value → H) :
    ReturnsInHanded {} Tryd.checked os 7 .any (fun w args => (Rows.rankStaysSpec.pre enc Tryd.prog Tryd.f7 [] false w args ∧ laidMetH Tryd.prog laidL w) ∧ sizedMet enc Tryd.prog Tryd.f7 (OpenSpec.ofChange Rows.rankStaysSpec) false w args) (Rows.rankStaysSpec.post enc Tryd.prog Tryd.f7 false true false false) := by
  refine law_lifted_laid (C := Tryd.checked) (tb := 4) 9 (laidMetH Tryd.prog laidL) (fun _ _ hh h => h.of_heap hh) (fun _ h => tab_of_laid h) lawOwn started (by kernel_rfl) Tryd.func7 lawLaid (by kernel_rfl) (by kernel_rfl) ?_ rfl ?_ ?_ rankStays_law
  · decide +kernel
  · intro ds hd
    match ds, hd with
    | [a, b], _ => exact ⟨rfl, rfl, rfl⟩
  · exact ChangeSpec.witness_shaped (enc := enc) (C := Tryd.checked) (os := os) (X := fun w _ => laidMetH Tryd.prog laidL w) false (World.doorLaid Tryd.prog 400 os) #[.slice none 0 0, .agg #[.int .i64 0, .int .i64 0]] 8 rfl (World.shaped_of_RefB (by kernel_rfl) (by kernel_rfl)) (by kernel_rfl) (by kernel_rfl) (by kernel_rfl) (door_met os _)

theorem rankStays_said : Rows.RankStaysSaid :=
  OpenClaim.holds_of_wide 7 Tryd.f7 rfl rfl rfl rfl rfl rfl rfl ⟨rfl, rfl, rfl, rfl, rfl⟩ rfl rfl rfl rfl rfl (by kernel_rfl) Tryd.func7 (by kernel_rfl)
    (of_decide_eq_true (by kernel_rfl)) (by unfold Func.isWrapper; rw [if_neg (of_decide_eq_false (by kernel_rfl))]; exact ⟨rfl, rfl⟩)
    (fun os started H enc _ => rankStays_lifted os started H enc)

theorem rankStays_card : Rows.RankStaysCardSaid :=
  Claim7.holds_tied_plain_at .later [] [.data, .data, .data] true (true, "94fceb64c30785ffa1842027790d430edaf42a825b37b30cf96a6c93c1583922") false
    rankStays_said (fun _ h => by cases h) (by kernel_rfl) (fun _ h => by cases h) rankStays_row_tie rfl ⟨rfl, rfl⟩ (by kernel_rfl) rfl
    (fun f fn hf hfn => by
      obtain rfl : f = 7 := Option.some.inj ((show Tryd.prog.funcNamed "slagheap/slagheaplaw05.RankStays" = some 7 by kernel_rfl).symm.trans hf) |>.symm
      obtain rfl : fn = Tryd.f7 := (Option.some.inj (Tryd.func7.symm.trans hfn)).symm
      exact ⟨by kernel_rfl, fun j t ht => by
        have h3 : t ∈ Tryd.f7.params.toList := by
          have := Array.mem_of_getElem? ht
          exact Array.mem_toList_iff.2 this
        exact (by decide +kernel : ∀ t ∈ Tryd.f7.params.toList, Tryd.prog.wantsStandIn t = false) t h3⟩)
    (by kernel_rfl)

end Go.Proofs.YtbekdlgkoleblaaDoor
