/- The meters' chapter: its reference, its example, its laws. -/
import Derived.Test.YthdjidomjgoaoaaM2
namespace Go.Proofs.Ythdjidomjgoaoaa

theorem refLess_ok (p i q j : Int) (gl : Nat → Int × Int) : PCalls Try.prog 9 [.pv (eP p i), .pv (eP q j)] gl fun r gl' => r = .pv (.bool (ltI p i q j)) ∧ gl' = gl := by
  refine pcalls_of_pwp noImm Try.func9 rfl (by simp) mixed (by kernel_rfl) fun gn => ?_
  by_cases h : p < q
  · simp [eP, ltI, h]
  · by_cases h' : p = q
    · subst h'; simp [eP, ltI]
    · simp [eP, ltI, h, h', beq_false_of_ne h']

theorem refSteps_ok (c m : Int) (gl : Nat → Int × Int) : PCalls Try.prog 13 [.pv (.agg [.int .i64 c, .int .i64 m])] gl fun r gl' => r = .pv (.int .i64 (IntKind.i64.wrap (c + m))) ∧ gl' = gl := by
  refine pcalls_of_pwp noImm Try.func13 rfl (by simp) mixed (by kernel_rfl) fun gn => ?_
  simp

theorem awake_ok (gl : Nat → Int × Int) : PCalls Try.prog 6 [] gl fun r _ => r = .pv (.bool true) := by
  refine pcalls_of_pwp noImm Try.func6 rfl (by simp) mixed (by kernel_rfl) fun gn => ?_
  simp
  refine (new_ok _).use ?_
  simp
  refine (mLess_ok (some gn) 1 0 2 0 _).use ?_
  simp
  refine (mLess_ok (some gn) 1 0 1 0 _).use ?_
  simp
  refine (mMade_ok (some gn) 3 _).use ?_
  simp
  refine (mSplit_ok (some gn) _).use ?_
  simp [tick, ltI, wr, show max (3 : Int) 0 = 3 from rfl]
  refine (mSteps_ok (some gn) _).use ?_
  simp [steps, wr]
  refine (mSince_ok (some gn) 4 _).use ?_
  simp [wr]

theorem meterNone_ok (p i q j n s : Int) (gl : Nat → Int × Int) : PCalls Try.prog 4 [.pv (eP p i), .pv (eP q j), .pv (.int .i64 n), .pv (.int .i64 s)] gl fun r _ => r = .pv (.bool true) := by
  refine pcalls_of_pwp noImm Try.func4 rfl (by simp) mixed (by kernel_rfl) fun gn => ?_
  simp
  refine (awake_ok _).mono fun r gl' h => ?_
  subst h
  simp [eP]
  refine (mMade_ok none n _).use ?_
  simp [tick]
  refine (mLess_ok none p i q j _).use ?_
  simp [tick]
  refine (mSplit_ok none _).use ?_
  simp
  refine (new_ok _).use ?_
  simp
  refine (new_ok _).use ?_
  simp
  refine (mLess_ok (some gn) p i q j _).use ?_
  simp
  refine (refLess_ok p i q j _).use ?_
  simp
  refine (mSteps_ok none _).use ?_
  simp [steps]
  refine (mSince_ok none s _).use ?_
  simp
  refine (mSteps_ok (some gn) _).use ?_
  simp [steps, tick, upd_apply, wr]
  refine (mSteps_ok (some (gn + 1)) _).use ?_
  simp [steps, upd_apply, wr]

end Go.Proofs.Ythdjidomjgoaoaa
