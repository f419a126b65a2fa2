/- The acts of chapter 06; few of them. -/
import Derived.Test.YtgbcjpdhmjikgaaDoorD2
namespace Go.Proofs.YtgbcjpdhmjikgaaDoor
set_option linter.unusedSimpArgs false
set_option linter.unusedVariables false

structure Act6 where
  kind : Nat
  a : Nat
  b : Nat
  x : El
  l : List El
def Act6.cells (c : Act6) : List PV := [.int .u8 c.kind, .int .u8 c.a, .int .u8 c.b, .int .i64 c.x.1, .int .i64 c.x.2, .list (c.l.map eC)]
def Act6.ok (c : Act6) : Prop := c.kind < 256 ∧ c.a < 256 ∧ c.b < 256 ∧ inE c.x ∧ ∀ x ∈ c.l, inE x

theorem wide6 (l : List Act6) : Wide 6 (l.map Act6.cells) := by
  intro x hx
  obtain ⟨a, _, rfl⟩ := List.mem_map.1 hx
  rfl

def fewB (l : List Act6) : Bool := l.all (fun c => decide (c.l.length ≤ 40)) && decide (l.length ≤ 30)

set_option maxHeartbeats 4000000 in
set_option maxRecDepth 4000 in
theorem few_ok (l : List Act6) (hlen : l.length ≤ 9223372036854775807) (gl : Nat → Int × Int) : PCalls Tryd.prog 22 [.pv (.list (l.map Act6.cells))] gl fun r gl' => r = .pv (.bool (fewB l)) ∧ gl' = gl := by
  refine pcalls_of_pwp noImm Tryd.func22 rfl (by simp) mixed (by kernel_rfl) fun gn => ?_
  simp
  refine pwp_loopS (α := Nat) (fun k => k ≤ l.length ∧ ∀ i (h : i < l.length), i < k → l[i].l.length ≤ 40) (fun k => [(0, .pv (.list (l.map Act6.cells))), (2, .pv (.bool false)), (3, .pv (.int .i64 k))]) (fun _ => []) (fun _ => gl) (fun _ => gn) (fun k => l.length - k) 0 (by simp) (by simp) ?_
  rintro k ⟨hk, hall⟩
  by_cases hlt : k < l.length
  · by_cases hbig : (40 : Int) < l[k].l.length
    · simp [hlt, wide6, Act6.cells, hbig]
      have : ¬ l[k].l.length ≤ 40 := by omega
      unfold fewB
      rw [Bool.and_eq_false_iff]
      exact .inl (by rw [List.all_eq_false]; exact ⟨l[k], List.getElem_mem hlt, by simpa using this⟩)
    · simp [hlt, wide6, Act6.cells, hbig]
      refine ⟨k + 1, ⟨hlt, fun i h hi => ?_⟩, by omega, wr _ (by omega) (by omega)⟩
      rcases Nat.lt_or_ge i k with h1 | h1
      · exact hall i h h1
      · obtain rfl : i = k := by omega
        omega
  · simp [hlt]
    unfold fewB
    rw [List.all_eq_true.2]
    · simp; omega
    · intro c hc
      obtain ⟨i, hi, rfl⟩ := List.getElem_of_mem hc
      exact decide_eq_true (hall i hi (by omega))
end Go.Proofs.YtgbcjpdhmjikgaaDoor
