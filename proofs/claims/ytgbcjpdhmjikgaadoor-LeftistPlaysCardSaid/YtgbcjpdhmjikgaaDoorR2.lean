/- Two rows, the same. -/
import Derived.Test.YtgbcjpdhmjikgaaDoorR1
namespace Go.Proofs.YtgbcjpdhmjikgaaDoor

set_option maxHeartbeats 2000000 in
theorem same_ok (a b : List (Int × Int)) (ha : a.length ≤ 1000000) (hb : b.length ≤ 1000000) (gl : Nat → Int × Int) : PCalls Tryd.prog 19 [.pv (.list (a.map eC)), .pv (.list (b.map eC))] gl fun r gl' => r = .pv (.bool (decide (a = b))) ∧ gl' = gl := by
  refine pcalls_of_pwp noImm Tryd.func19 rfl (by simp) mixed (by kernel_rfl) fun gn => ?_
  by_cases hl : a.length = b.length
  · simp [hl]
    refine pwp_loopS (α := Nat) (fun k => k ≤ a.length ∧ a.take k = b.take k) (fun k => [(0, .pv (.list (a.map eC))), (1, .pv (.list (b.map eC))), (4, .pv (.bool false)), (5, .pv (.int .i64 k))]) (fun _ => []) (fun _ => gl) (fun _ => gn) (fun k => a.length - k) 0 (by simp) (by simp) ?_
    rintro k ⟨hk, he⟩
    by_cases hlt : k < a.length
    · have hlt2 : k < b.length := by omega
      simp [hlt, hlt2, wide2, eC, pairEq]
      split
      · rename_i h
        intro e
        subst e
        simp at h
      · rename_i h
        have h1 : a[k].1 = b[k].1 := Decidable.byContradiction fun e => h (.inl e)
        have h2 : a[k].2 = b[k].2 := Decidable.byContradiction fun e => h (.inr e)
        refine ⟨k + 1, ⟨by omega, ?_⟩, by omega, wr _ (by omega) (by omega)⟩
        rw [List.take_succ_eq_append_getElem hlt, List.take_succ_eq_append_getElem hlt2, he, Prod.ext h1 h2]
    · simp [hlt]
      have e1 : k = a.length := by omega
      rw [e1, List.take_length, hl, List.take_length] at he
      exact he
  · have hl' : ¬ (a.length : Int) = b.length := by omega
    simp [hl']
    exact fun e => hl (by rw [e])
end Go.Proofs.YtgbcjpdhmjikgaaDoor
