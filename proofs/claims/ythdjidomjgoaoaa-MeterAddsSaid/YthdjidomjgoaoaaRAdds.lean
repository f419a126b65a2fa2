/- The meters' chapter: the row of MeterAdds, out of its contract. -/
import Derived.Test.YthdjidomjgoaoaaL2b
import Derived.Test.YthdjidomjgoaoaaEngU
import Derived.Test.YthdjidomjgoaoaaRows
import Derived.ProofKit
namespace Go.Proofs.Ythdjidomjgoaoaa
open Go.ChangeShapes Go.WideShapes Go.ChangeAt Go.RowKit

theorem lawOwn : ownKnob Try.prog.godebug = none := by kernel_rfl
theorem lawLaid : laidOutB Try.prog = true := by kernel_rfl

theorem u8_wf {n : Int} (h : (Lit.int .u8 n).wf = true) : 0 ≤ n ∧ n < 256 := by
  simp [Lit.wf, IntKind.min, IntKind.max, IntKind.signed, IntKind.bits] at h
  omega

theorem meterAdds_lifted (os : Os) (started : os.Started) (H : Type) (enc : TypeId × Value → H) :
    ReturnsInHanded {} Try.checked os 5 .any (Rows.meterAddsSpec.pre6 enc Try.prog Try.f5 Rows.meterAddsRow.domain false) (Rows.meterAddsSpec.post enc Try.prog Try.f5 false true false false) := by
  refine law_lifted (C := Try.checked) (tb := 4) 9 lawOwn started (by kernel_rfl) Try.func5 lawLaid (by kernel_rfl) (by kernel_rfl) ?_ rfl ?_ ?_ ?_
  · decide +kernel
  · intro ds hd
    match ds, hd with
    | [a, b, c], _ => exact ⟨rfl, rfl, rfl⟩
  · exact (ChangeSpec.witness6 (enc := enc) (C := Try.checked) false ⟨#[], #[.int .u8 0, .int .u8 0, .int .u8 0], []⟩ 8 (by kernel_rfl) (by kernel_rfl) (by kernel_rfl) (by kernel_rfl))
  · intro ps hps gl
    obtain ⟨a, b, c, rfl, ha, hb, hc⟩ := args_3 (t := 5) (u := 5) (v := 5) hps
    obtain ⟨n, rfl, hn⟩ := hasSh_int (k := .u8) (arg_one ha (by kernel_rfl) (by kernel_rfl))
    obtain ⟨k, rfl, hk⟩ := hasSh_int (k := .u8) (arg_one hb (by kernel_rfl) (by kernel_rfl))
    obtain ⟨j, rfl, hj⟩ := hasSh_int (k := .u8) (arg_one hc (by kernel_rfl) (by kernel_rfl))
    exact meterAdds_ok n k j (u8_wf hn) (u8_wf hk) (u8_wf hj) gl

theorem meterAdds_holds : Rows.MeterAddsSaid :=
  OpenClaim.holds_of_wide 5 Try.f5 rfl rfl rfl rfl rfl rfl rfl ⟨rfl, rfl, rfl, rfl, rfl⟩ rfl rfl rfl rfl rfl (by kernel_rfl) Try.func5 (by kernel_rfl)
    (of_decide_eq_true (by kernel_rfl)) (by unfold Func.isWrapper; rw [if_neg (by decide +kernel)]; exact ⟨rfl, rfl⟩)
    (fun os started H enc _ => meterAdds_lifted os started H enc)

end Go.Proofs.Ythdjidomjgoaoaa
