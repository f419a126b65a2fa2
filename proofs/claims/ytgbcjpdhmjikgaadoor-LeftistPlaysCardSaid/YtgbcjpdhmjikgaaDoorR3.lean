/- An element put where it belongs. -/
import Derived.Test.YtgbcjpdhmjikgaaDoorR2
namespace Go.Proofs.YtgbcjpdhmjikgaaDoor
set_option linter.unusedSimpArgs false

set_option maxHeartbeats 4000000 in
set_option maxRecDepth 4000 in
theorem put_ok (l : List (Int × Int)) (p i : Int) (hl : l.length ≤ 1000000) (gl : Nat → Int × Int) : PCalls Tryd.prog 25 [.pv (.list (l.map eC)), .pv (eP p i)] gl fun r gl' => r = .fresh ((putL l (p, i)).map eC) ∧ gl' = gl := by
  refine pcalls_of_pwp noImm Tryd.func25 rfl (by simp) mixed (by kernel_rfl) fun gn => ?_
  have hp := putAt_le l (p, i)
  have fin : List.map eC (l.take (putAt l (p, i))) ++ ([.int .i64 p, .int .i64 i] :: List.map eC (l.drop (putAt l (p, i)))) = (putL l (p, i)).map eC := by
    rw [putL_eq]; simp [eC]
  have tail : putAt l (p, i) ≤ l.length ∧ (Wide 2 [] ∧ min (putAt l (p, i)) l.length * 16 ≤ 140737488355328 ∧ min (putAt l (p, i)) l.length ≤ 140737488355328) ∧
      (Wide 2 [[PV.int IntKind.i64 p, PV.int IntKind.i64 i]] ∧ (min (putAt l (p, i)) l.length + 1) * 16 ≤ 140737488355328 ∧ min (putAt l (p, i)) l.length ≤ 140737488355327) ∧
        putAt l (p, i) ≤ l.length ∧
          (Wide 2 (List.take (putAt l (p, i)) (List.map eC l) ++ [[PV.int IntKind.i64 p, PV.int IntKind.i64 i]]) ∧
              (min (putAt l (p, i)) l.length + 1 + (l.length - putAt l (p, i))) * 16 ≤ 140737488355328 ∧
                min (putAt l (p, i)) l.length + 1 + (l.length - putAt l (p, i)) ≤ 140737488355328) ∧
            List.take (putAt l (p, i)) (List.map eC l) ++ [PV.int IntKind.i64 p, PV.int IntKind.i64 i] :: List.drop (putAt l (p, i)) (List.map eC l) = List.map eC (putL l (p, i)) := by
    have w1 : Wide 2 [[PV.int IntKind.i64 p, PV.int IntKind.i64 i]] := fun x hx => by rw [List.mem_singleton.1 hx]; rfl
    refine ⟨hp, ⟨(fun x hx => by cases hx), by omega, by omega⟩, ⟨w1, by omega, by omega⟩, hp, ⟨?_, by omega, by omega⟩, ?_⟩
    · intro x hx
      rcases List.mem_append.1 hx with hx | hx
      · exact wide2 l x (List.mem_of_mem_take hx)
      · exact w1 x hx
    · rw [← fin]; simp
  have hw1 : ∀ k, Wide 2 (List.take k (l.map eC)) := fun k x hx => wide2 l x (List.mem_of_mem_take hx)
  have hw2 : ∀ k, Wide 2 (List.drop k (l.map eC)) := fun k x hx => wide2 l x (List.mem_of_mem_drop hx)
  simp [eP]
  refine pwp_loopS (α := Nat) (fun k => k ≤ putAt l (p, i)) (fun k => [(0, .pv (.list (l.map eC))), (3, .loc 3 0), (4, .pv (.list [])), (5, .pv (.int .i64 k))]) (fun _ => [(3, [.int .i64 p, .int .i64 i])]) (fun _ => gl) (fun _ => gn) (fun k => l.length - k) 0 (by simp) (by simp) ?_
  rintro k hk
  by_cases hlt : k < l.length
  · simp [hlt, wide2, eC]
    refine (refLess_ok _ _ _ _ _).use ?_
    by_cases hk' : k < putAt l (p, i)
    · have := putAt_less l (p, i) k hlt hk'
      simp only at this
      simp [this]
      refine ⟨k + 1, hk', by omega, wr _ (by omega) (by omega)⟩
    · obtain rfl : k = putAt l (p, i) := by omega
      have := putAt_stop l (p, i) hlt
      simp only at this
      simp [this, wide2, hw1, hw2]
      exact tail
  · have e : k = l.length := by omega
    simp [hlt, wide2, hw1, hw2]
    obtain rfl : k = putAt l (p, i) := by omega
    exact tail
end Go.Proofs.YtgbcjpdhmjikgaaDoor
