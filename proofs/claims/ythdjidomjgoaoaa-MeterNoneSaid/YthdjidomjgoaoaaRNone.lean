/- The meters' chapter: the row of MeterNone, out of its contract. -/
import Derived.Test.YthdjidomjgoaoaaL2
import Derived.Test.YthdjidomjgoaoaaEngU
import Derived.Test.YthdjidomjgoaoaaRows
import Derived.ProofKit
namespace Go.Proofs.Ythdjidomjgoaoaa
open Go.ChangeShapes Go.WideShapes Go.ChangeAt Go.RowKit

theorem lawOwn : ownKnob Try.prog.godebug = none := by kernel_rfl
theorem lawLaid : laidOutB Try.prog = true := by kernel_rfl

theorem elemSh {c : List PV} (h : HasSh (.pair (.int .i64) (.pair (.int .i64) .unit)) c) : ∃ a b, c = [.int .i64 a, .int .i64 b] ∧ (Lit.int .i64 a).wf = true ∧ (Lit.int .i64 b).wf = true := by
  obtain ⟨_, _, rfl, ⟨a, rfl, ha⟩, _, _, rfl, ⟨b, rfl, hb⟩, rfl⟩ := h
  exact ⟨a, b, rfl, ha, hb⟩

theorem meterNone_lifted (os : Os) (started : os.Started) (H : Type) (enc : TypeId × Value → H) :
    ReturnsInHanded {} Try.checked os 4 .any (Rows.meterNoneSpec.pre6 enc Try.prog Try.f4 Rows.meterNoneRow.domain false) (Rows.meterNoneSpec.post enc Try.prog Try.f4 false true false false) := by
  refine law_lifted (C := Try.checked) (tb := 4) 9 lawOwn started (by kernel_rfl) Try.func4 lawLaid (by kernel_rfl) (by kernel_rfl) ?_ rfl ?_ ?_ ?_
  · decide +kernel
  · intro ds hd
    match ds, hd with
    | [a, b, c, d], _ => exact ⟨rfl, rfl, rfl⟩
  · exact (ChangeSpec.witness6 (enc := enc) (C := Try.checked) false ⟨#[], #[.agg #[.int .i64 0, .int .i64 0], .agg #[.int .i64 0, .int .i64 0], .int .i64 0, .int .i64 0], []⟩ 8 (by kernel_rfl) (by kernel_rfl) (by kernel_rfl) (by kernel_rfl))
  · intro ps hps gl
    obtain ⟨a, b, c, d, rfl, ha, hb, hc, hd⟩ := args_4 (t := 29) (u := 29) (v := 3) (w := 3) hps
    obtain ⟨_, rfl, ha1⟩ := arg_struct ha (s := .pair (.int .i64) (.pair (.int .i64) .unit)) (by kernel_rfl) (by kernel_rfl)
    obtain ⟨_, rfl, hb1⟩ := arg_struct hb (s := .pair (.int .i64) (.pair (.int .i64) .unit)) (by kernel_rfl) (by kernel_rfl)
    obtain ⟨p, i, rfl, -⟩ := elemSh ha1
    obtain ⟨q, j, rfl, -⟩ := elemSh hb1
    obtain ⟨n, rfl, -⟩ := hasSh_int (k := .i64) (arg_one hc (by kernel_rfl) (by kernel_rfl))
    obtain ⟨s, rfl, -⟩ := hasSh_int (k := .i64) (arg_one hd (by kernel_rfl) (by kernel_rfl))
    exact meterNone_ok p i q j n s gl

theorem meterNone_holds : Rows.MeterNoneSaid :=
  OpenClaim.holds_of_wide 4 Try.f4 rfl rfl rfl rfl rfl rfl rfl ⟨rfl, rfl, rfl, rfl, rfl⟩ rfl rfl rfl rfl rfl (by kernel_rfl) Try.func4 (by kernel_rfl)
    (of_decide_eq_true (by kernel_rfl)) (by unfold Func.isWrapper; rw [if_neg (by decide +kernel)]; exact ⟨rfl, rfl⟩)
    (fun os started H enc _ => meterNone_lifted os started H enc)

end Go.Proofs.Ythdjidomjgoaoaa
