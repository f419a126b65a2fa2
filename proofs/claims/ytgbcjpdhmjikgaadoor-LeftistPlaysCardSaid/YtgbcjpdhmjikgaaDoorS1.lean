/- The document's order: rows sorted, and summed. -/
import Derived.Test.YtgbcjpdhmjikgaaDoorR3
import Derived.Test.YtgbcjpdhmjikgaaDoorQ1
namespace Go.Proofs.YtgbcjpdhmjikgaaDoor

theorem sumL_take (a b : List El) (k : Nat) (h : k < b.length) : sumL a (b.take (k + 1)) = putL (sumL a (b.take k)) b[k] := by
  rw [List.take_succ_eq_append_getElem h]
  unfold sumL
  rw [List.foldl_append]
  rfl

set_option maxHeartbeats 2000000 in
theorem sort_ok (l : List El) (hl : l.length ≤ 100000) (gl : Nat → Int × Int) : PCalls Tryd.prog 17 [.pv (.list (l.map eC))] gl fun r gl' => r = .pv (.list ((sortL l).map eC)) ∧ gl' = gl := by
  refine pcalls_of_pwp noImm Tryd.func17 rfl (by simp) mixed (by kernel_rfl) fun gn => ?_
  simp
  refine pwp_loopS (α := Nat) (fun k => k ≤ l.length) (fun k => [(0, .pv (.list (l.map eC))), (3, .pv (.list ((sortL (l.take k)).map eC))), (4, .pv (.int .i64 k))]) (fun _ => []) (fun _ => gl) (fun _ => gn) (fun k => l.length - k) 0 (by simp) (by simp [sortL, sumL]) ?_
  rintro k hk
  by_cases hlt : k < l.length
  · simp [hlt, wide2, eC]
    refine (put_ok (sortL (l.take k)) l[k].1 l[k].2 (by rw [sortL_len]; simp; omega) _).use ?_
    simp
    refine ⟨k + 1, hlt, by omega, ?_, wr _ (by omega) (by omega)⟩
    rw [show sortL (l.take (k + 1)) = _ from sumL_take [] l k hlt]
    rfl
  · simp [hlt]
    rw [List.take_of_length_le (by omega)]

set_option maxHeartbeats 2000000 in
theorem sum_ok (a b : List El) (ha : a.length ≤ 100000) (hb : b.length ≤ 100000) (gl : Nat → Int × Int) : PCalls Tryd.prog 20 [.pv (.list (a.map eC)), .pv (.list (b.map eC))] gl fun r gl' => r = .pv (.list ((sumL a b).map eC)) ∧ gl' = gl := by
  refine pcalls_of_pwp noImm Tryd.func20 rfl (by simp) mixed (by kernel_rfl) fun gn => ?_
  simp
  refine pwp_loopS (α := Nat) (fun k => k ≤ b.length) (fun k => [(0, .pv (.list (a.map eC))), (1, .pv (.list (b.map eC))), (5, .pv (.list ((sumL a (b.take k)).map eC))), (6, .pv (.int .i64 k))]) (fun _ => []) (fun _ => gl) (fun _ => gn) (fun k => b.length - k) 0 (by simp) (by simp [sumL]) ?_
  rintro k hk
  by_cases hlt : k < b.length
  · simp [hlt, wide2, eC]
    refine (put_ok (sumL a (b.take k)) b[k].1 b[k].2 (by rw [sumL_len]; simp; omega) _).use ?_
    simp
    refine ⟨k + 1, hlt, by omega, ?_, wr _ (by omega) (by omega)⟩
    rw [sumL_take a b k hlt]
  · simp [hlt]
    rw [List.take_of_length_le (by omega)]
end Go.Proofs.YtgbcjpdhmjikgaaDoor
