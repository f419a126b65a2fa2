/- What the laws of chapter 05 have in common: arguments, and what is laid. -/
import Derived.Test.YtbekdlgkoleblaaDoorT1
import Derived.Test.YtbekdlgkoleblaaDoorL5a
import Derived.Test.YtbekdlgkoleblaaDoorTie
import Derived.Test.YtbekdlgkoleblaaDoorCards
import Derived.SevenTiedAt
namespace Go.Proofs.YtbekdlgkoleblaaDoor
open Go.ChangeShapes Go.WideShapes Go.ChangeAt Go.RowKit
set_option linter.unusedVariables false

theorem lawOwn : ownKnob Tryd.prog.godebug = none := by kernel_rfl
theorem lawLaid : laidOutB Tryd.prog = true := by kernel_rfl
theorem door_met (os : Os) (args : Array Value) : laidMetH Tryd.prog laidL ((World.doorLaid Tryd.prog 400 os).forCall (fun _ _ => 0) ⟨#[], args, []⟩).memory :=
  laidMetH_of_parts3 (fuel := 8) (laidMet_of_run' 8 (by kernel_rfl) (by kernel_rfl)) (by kernel_rfl) (by kernel_rfl)

theorem i64_wf {n : Int} (h : (Lit.int .i64 n).wf = true) : inI n := by
  simp [Lit.wf, IntKind.min, IntKind.max, IntKind.signed, IntKind.bits] at h
  exact h
theorem u8_wf {n : Int} (h : (Lit.int .u8 n).wf = true) : 0 ≤ n ∧ n < 256 := by
  simp [Lit.wf, IntKind.min, IntKind.max, IntKind.signed, IntKind.bits] at h
  omega

def shE : Sh := .pair (.int .i64) (.pair (.int .i64) .unit)
theorem hasSh_cells {c : List PV} (h : HasSh shE c) : ∃ x : El, c = eC x ∧ inE x := by
  obtain ⟨x, y, rfl, ⟨p, rfl, hp⟩, z, w, rfl, ⟨i, rfl, hi⟩, rfl⟩ := h
  exact ⟨(p, i), rfl, i64_wf hp, i64_wf hi⟩
theorem hasSh_rows : ∀ {xs : List (List PV)}, (∀ x ∈ xs, HasSh shE x) → ∃ l : List El, xs = l.map eC ∧ ∀ x ∈ l, inE x
  | [], _ => ⟨[], rfl, fun _ h => by cases h⟩
  | c :: xs, h => by
    obtain ⟨x, rfl, hx⟩ := hasSh_cells (h c (List.mem_cons_self ..))
    obtain ⟨l, rfl, hl⟩ := hasSh_rows fun y hy => h y (List.mem_cons_of_mem _ hy)
    exact ⟨x :: l, rfl, fun y hy => by
      rcases List.mem_cons.1 hy with rfl | hy
      · exact hx
      · exact hl y hy⟩
theorem hasSh_els {p : PV} (h : HasSh (.list shE) [p]) : ∃ l : List El, p = .list (l.map eC) ∧ l.length ≤ maxLen ∧ ∀ x ∈ l, inE x := by
  obtain ⟨xs, rfl, hl, h⟩ := hasSh_list h
  obtain ⟨l, rfl, hw⟩ := hasSh_rows h
  exact ⟨l, rfl, by simpa using hl, hw⟩

end Go.Proofs.YtbekdlgkoleblaaDoor
