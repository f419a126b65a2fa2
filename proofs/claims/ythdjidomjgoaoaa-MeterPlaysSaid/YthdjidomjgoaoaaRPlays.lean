/- The meters' chapter: the row of MeterPlays, out of its contract. -/
import Derived.Test.YthdjidomjgoaoaaL2c
import Derived.Test.YthdjidomjgoaoaaEngU
import Derived.Test.YthdjidomjgoaoaaRows
import Derived.ProofKit
namespace Go.Proofs.Ythdjidomjgoaoaa
open Go.ChangeShapes Go.WideShapes Go.ChangeAt Go.RowKit

theorem lawOwn : ownKnob Try.prog.godebug = none := by kernel_rfl
theorem lawLaid : laidOutB Try.prog = true := by kernel_rfl

theorem elemSh {c : List PV} (h : HasSh (.pair (.int .i64) (.pair (.int .i64) .unit)) c) : ∃ a b, c = [.int .i64 a, .int .i64 b] ∧ (Lit.int .i64 a).wf = true ∧ (Lit.int .i64 b).wf = true := by
  obtain ⟨_, _, rfl, ⟨a, rfl, ha⟩, _, _, rfl, ⟨b, rfl, hb⟩, rfl⟩ := h
  exact ⟨a, b, rfl, ha, hb⟩

theorem actSh {c : List PV} (h : HasSh (.pair (.pair (.int .i64) (.pair (.int .i64) .unit)) (.pair (.pair (.int .i64) (.pair (.int .i64) .unit)) (.pair (.int .i64) .unit))) c) : ∃ a : ActR, c = a.cells := by
  obtain ⟨_, _, rfl, h1, _, _, rfl, h2, _, _, rfl, ⟨n, rfl, -⟩, rfl⟩ := h
  obtain ⟨p, i, rfl, -⟩ := elemSh h1
  obtain ⟨q, j, rfl, -⟩ := elemSh h2
  exact ⟨⟨p, i, q, j, n⟩, rfl⟩

theorem actsSh {xs : List (List PV)} (h : ∀ x ∈ xs, ∃ a : ActR, x = a.cells) : ∃ as' : List ActR, xs = as'.map ActR.cells := by
  induction xs with
  | nil => exact ⟨[], rfl⟩
  | cons x xs ih =>
    obtain ⟨a, rfl⟩ := h x (by simp)
    obtain ⟨l, rfl⟩ := ih fun y hy => h y (by simp [hy])
    exact ⟨a :: l, rfl⟩

theorem i64_wf {n : Int} (h : (Lit.int .i64 n).wf = true) : -9223372036854775808 ≤ n ∧ n ≤ 9223372036854775807 := by
  simp [Lit.wf, IntKind.min, IntKind.max, IntKind.signed, IntKind.bits] at h
  omega

theorem meterPlays_lifted (os : Os) (started : os.Started) (H : Type) (enc : TypeId × Value → H) :
    ReturnsInHanded {} Try.checked os 3 .any (Rows.meterPlaysSpec.pre6 enc Try.prog Try.f3 Rows.meterPlaysRow.domain false) (Rows.meterPlaysSpec.post enc Try.prog Try.f3 false true false false) := by
  refine law_lifted (C := Try.checked) (tb := 4) 9 lawOwn started (by kernel_rfl) Try.func3 lawLaid (by kernel_rfl) (by kernel_rfl) ?_ rfl ?_ ?_ ?_
  · decide +kernel
  · intro ds hd
    match ds, hd with
    | [a, b], _ => exact ⟨rfl, rfl, rfl⟩
  · exact (ChangeSpec.witness6 (enc := enc) (C := Try.checked) false ⟨#[], #[.slice none 0 0, .int .i64 0], []⟩ 8 (by kernel_rfl) (by kernel_rfl) (by kernel_rfl) (by kernel_rfl))
  · intro ps hps gl
    obtain ⟨a, b, rfl, ha, hb⟩ := args_2 (t := 22) (u := 3) hps
    obtain ⟨xs, rfl, -, hx⟩ := hasSh_list (s := .pair (.pair (.int .i64) (.pair (.int .i64) .unit)) (.pair (.pair (.int .i64) (.pair (.int .i64) .unit)) (.pair (.int .i64) .unit))) (arg_one ha (by kernel_rfl) (by kernel_rfl))
    obtain ⟨l, rfl⟩ := actsSh fun x h => actSh (hx x h)
    obtain ⟨s, rfl, hs⟩ := hasSh_int (k := .i64) (arg_one hb (by kernel_rfl) (by kernel_rfl))
    exact meterPlays_ok l s (i64_wf hs) gl

theorem meterPlays_holds : Rows.MeterPlaysSaid :=
  OpenClaim.holds_of_wide 3 Try.f3 rfl rfl rfl rfl rfl rfl rfl ⟨rfl, rfl, rfl, rfl, rfl⟩ rfl rfl rfl rfl rfl (by kernel_rfl) Try.func3 (by kernel_rfl)
    (of_decide_eq_true (by kernel_rfl)) (by unfold Func.isWrapper; rw [if_neg (by decide +kernel)]; exact ⟨rfl, rfl⟩)
    (fun os started H enc _ => meterPlays_lifted os started H enc)

end Go.Proofs.Ythdjidomjgoaoaa
