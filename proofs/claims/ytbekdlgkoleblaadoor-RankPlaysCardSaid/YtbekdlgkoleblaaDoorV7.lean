/- The acts of chapter 05 as an argument. -/
import Derived.Test.YtbekdlgkoleblaaDoorV6
import Derived.Test.YtbekdlgkoleblaaDoorL5b
namespace Go.Proofs.YtbekdlgkoleblaaDoor
set_option linter.unusedVariables false

def shAct : Sh := .pair (.int .u8) (.pair (.int .u8) (.pair (.int .u8) (.pair shE .unit)))
theorem u8_nat {n : Int} (h : (Lit.int .u8 n).wf = true) : ∃ k : Nat, n = k ∧ k < 256 := by
  have := u8_wf h
  exact ⟨n.toNat, by omega, by omega⟩
theorem hasSh_act {c : List PV} (h : HasSh shAct c) : ∃ x : Act5, c = x.cells ∧ x.ok := by
  obtain ⟨_, _, rfl, ⟨p, rfl, hp⟩, _, _, rfl, ⟨q, rfl, hq⟩, _, _, rfl, ⟨r, rfl, hr⟩, _, _, rfl, he, rfl⟩ := h
  obtain ⟨x, rfl, hx⟩ := hasSh_cells he
  obtain ⟨p, rfl, hp'⟩ := u8_nat hp
  obtain ⟨q, rfl, hq'⟩ := u8_nat hq
  obtain ⟨r, rfl, hr'⟩ := u8_nat hr
  exact ⟨⟨p, q, r, x⟩, rfl, hp', hq', hr', hx⟩
theorem hasSh_actRows : ∀ {xs : List (List PV)}, (∀ x ∈ xs, HasSh shAct x) → ∃ l : List Act5, xs = l.map Act5.cells ∧ ∀ x ∈ l, x.ok
  | [], _ => ⟨[], rfl, fun _ h => by cases h⟩
  | c :: xs, h => by
    obtain ⟨x, rfl, hx⟩ := hasSh_act (h c (List.mem_cons_self ..))
    obtain ⟨l, rfl, hl⟩ := hasSh_actRows fun y hy => h y (List.mem_cons_of_mem _ hy)
    exact ⟨x :: l, rfl, fun y hy => by
      rcases List.mem_cons.1 hy with rfl | hy
      · exact hx
      · exact hl y hy⟩
theorem hasSh_acts {p : PV} (h : HasSh (.list shAct) [p]) : ∃ l : List Act5, p = .list (l.map Act5.cells) ∧ l.length ≤ 9223372036854775807 ∧ ∀ x ∈ l, x.ok := by
  obtain ⟨xs, rfl, hl, h⟩ := hasSh_list h
  obtain ⟨l, rfl, hw⟩ := hasSh_actRows h
  exact ⟨l, rfl, by simpa [maxLen] using hl, hw⟩
end Go.Proofs.YtbekdlgkoleblaaDoor
