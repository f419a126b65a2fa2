/- MeterAdds. -/
import Derived.Test.YthdjidomjgoaoaaL2
namespace Go.Proofs.Ythdjidomjgoaoaa
set_option linter.unusedSimpArgs false
set_option linter.unusedVariables false

set_option maxHeartbeats 4000000 in
set_option maxRecDepth 4000 in
theorem meterAdds_ok (n k j : Int) (hn : 0 ≤ n ∧ n < 256) (hk : 0 ≤ k ∧ k < 256) (hj : 0 ≤ j ∧ j < 256) (gl : Nat → Int × Int) : PCalls Try.prog 5 [.pv (.int .u8 n), .pv (.int .u8 k), .pv (.int .u8 j)] gl fun r _ => r = .pv (.bool true) := by
  refine pcalls_of_pwp noImm Try.func5 rfl (by simp) mixed (by kernel_rfl) fun gn => ?_
  simp
  refine (awake_ok _).mono fun r gl' h => ?_
  subst h
  simp
  refine (new_ok _).use ?_
  simp
  refine pwp_loopS (α := Nat) (fun i => i ≤ n.toNat) (fun i => [(0, .pv (.int .u8 n)), (1, .pv (.int .u8 k)), (2, .pv (.int .u8 j)), (6, .pv (.bool false)), (8, .mtr gn 0), (9, .pv (.int .i64 i))]) (fun _ => []) (fun i => upd gl' gn (i, 0)) (fun _ => gn + 1) (fun i => n.toNat - i) 0 (by simp) (by simp) ?_
  intro i hi
  by_cases hlt : (i : Int) < n
  · simp [wr n (by omega) (by omega), hlt]
    refine (mLess_ok (some gn) i 0 0 0 _).use ?_
    simp [tick]
    refine ⟨i + 1, by omega, by omega, ?_⟩
    rw [wr ((i : Int) + 1) (by omega) (by omega)]; exact ⟨rfl, rfl⟩
  · obtain rfl : (i : Int) = n := by omega
    have hi1 := wr (i : Int) (by omega) (by omega)
    have hk1 := wr k (by omega) (by omega)
    have hj1 := wr j (by omega) (by omega)
    have hj2 := wr (0 - j) (by omega) (by omega)
    simp [hi1]
    refine (mSteps_ok (some gn) _).use ?_
    simp [steps, hk1, hi1]
    refine (mMade_ok (some gn) k _).use ?_
    simp [hj1]
    refine (mMade_ok (some gn) _ _).use ?_
    simp
    refine (mSplit_ok (some gn) _).use ?_
    have hm : max k 0 = k := by omega
    have hm' : max (IntKind.i64.wrap (-j)) 0 = 0 := by rw [wr _ (by omega) (by omega)]; omega
    simp [tick, hm, hm', hi1, hk1]
    refine (mSteps_ok (some gn) _).use ?_
    simp [steps]
    refine (mSince_ok (some gn) _ _).use ?_
    have hx : (i : Int) + k - i = k := by omega
    simp [hx, hk1]
    refine (mSince_ok (some gn) _ _).use ?_
    simp
    refine (mSteps_ok (some gn) _).use ?_
    simp [steps]
end Go.Proofs.Ythdjidomjgoaoaa
