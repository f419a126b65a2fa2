/- The acts of chapter 06 as an argument. -/
import Derived.Test.YtgbcjpdhmjikgaaDoorV1
import Derived.Test.YtgbcjpdhmjikgaaDoorA2
namespace Go.Proofs.YtgbcjpdhmjikgaaDoor
set_option linter.unusedVariables false

def shAct : Sh := .pair (.int .u8) (.pair (.int .u8) (.pair (.int .u8) (.pair shE (.pair (.list shE) .unit))))
theorem u8_nat {n : Int} (h : (Lit.int .u8 n).wf = true) : ∃ k : Nat, n = k ∧ k < 256 := by
  have := u8_wf h
  exact ⟨n.toNat, by omega, by omega⟩
theorem hasSh_act {c : List PV} (h : HasSh shAct c) : ∃ x : Act6, c = x.cells ∧ x.ok := by
  obtain ⟨_, _, rfl, ⟨p, rfl, hp⟩, _, _, rfl, ⟨q, rfl, hq⟩, _, _, rfl, ⟨r, rfl, hr⟩, _, _, rfl, he, _, _, rfl, hl, rfl⟩ := h
  obtain ⟨x, rfl, hx⟩ := hasSh_cells he
  obtain ⟨xs, rfl, hlen, hxs⟩ := hl
  obtain ⟨l, rfl, hw⟩ := hasSh_rows hxs
  obtain ⟨p, rfl, hp'⟩ := u8_nat hp
  obtain ⟨q, rfl, hq'⟩ := u8_nat hq
  obtain ⟨r, rfl, hr'⟩ := u8_nat hr
  exact ⟨⟨p, q, r, x, l⟩, rfl, hp', hq', hr', hx, hw⟩
theorem hasSh_actRows : ∀ {xs : List (List PV)}, (∀ x ∈ xs, HasSh shAct x) → ∃ l : List Act6, xs = l.map Act6.cells ∧ ∀ x ∈ l, x.ok
  | [], _ => ⟨[], rfl, fun _ h => by cases h⟩
  | c :: xs, h => by
    obtain ⟨x, rfl, hx⟩ := hasSh_act (h c (List.mem_cons_self ..))
    obtain ⟨l, rfl, hl⟩ := hasSh_actRows fun y hy => h y (List.mem_cons_of_mem _ hy)
    exact ⟨x :: l, rfl, fun y hy => by
      rcases List.mem_cons.1 hy with rfl | hy
      · exact hx
      · exact hl y hy⟩
theorem hasSh_acts {p : PV} (h : HasSh (.list shAct) [p]) : ∃ l : List Act6, p = .list (l.map Act6.cells) ∧ l.length ≤ 9223372036854775807 ∧ ∀ x ∈ l, x.ok := by
  obtain ⟨xs, rfl, hl, h⟩ := hasSh_list h
  obtain ⟨l, rfl, hw⟩ := hasSh_actRows h
  exact ⟨l, rfl, by simpa [maxLen] using hl, hw⟩
end Go.Proofs.YtgbcjpdhmjikgaaDoor
