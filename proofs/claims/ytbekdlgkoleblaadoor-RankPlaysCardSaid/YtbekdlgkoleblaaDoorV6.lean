/- Rows of bools as an argument. -/
import Derived.Test.YtbekdlgkoleblaaDoorV5
namespace Go.Proofs.YtbekdlgkoleblaaDoor
set_option linter.unusedVariables false

theorem hasSh_boolRows : ∀ {xs : List (List PV)}, (∀ x ∈ xs, HasSh .bool x) → ∃ l : List Bool, xs = l.map fun b => [.bool b]
  | [], _ => ⟨[], rfl⟩
  | c :: xs, h => by
    obtain ⟨m, rfl⟩ := h c (List.mem_cons_self ..)
    obtain ⟨l, rfl⟩ := hasSh_boolRows fun y hy => h y (List.mem_cons_of_mem _ hy)
    exact ⟨m :: l, rfl⟩
theorem hasSh_bools {p : PV} (h : HasSh (.list .bool) [p]) : ∃ l : List Bool, p = .list (l.map fun b => [.bool b]) ∧ l.length ≤ 9223372036854775807 := by
  obtain ⟨xs, rfl, hl, h⟩ := hasSh_list h
  obtain ⟨l, rfl⟩ := hasSh_boolRows h
  exact ⟨l, rfl, by simpa [maxLen] using hl⟩
end Go.Proofs.YtbekdlgkoleblaaDoor
