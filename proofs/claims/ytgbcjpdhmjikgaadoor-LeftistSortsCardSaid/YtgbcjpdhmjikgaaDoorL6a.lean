/- Laws of the leftist heaps: sorts. -/
import Derived.Test.YtgbcjpdhmjikgaaDoorA1
import Derived.Test.YtgbcjpdhmjikgaaDoorS1
import Derived.Test.YtgbcjpdhmjikgaaDoorD1
namespace Go.Proofs.YtgbcjpdhmjikgaaDoor
set_option linter.unusedSimpArgs false

set_option maxHeartbeats 8000000 in
set_option maxRecDepth 4000 in
theorem sorts_ok (a b : List El) (_ : ∀ x ∈ a, inE x) (_ : ∀ x ∈ b, inE x) (gl : Nat → Int × Int) : PCalls Tryd.prog 3 [.pv (.list (a.map eC)), .pv (.list (b.map eC))] gl fun r _ => r = .pv (.bool true) := by
  refine pcalls_of_pwp (cutImm [6, 12, 16] noImm) Tryd.func3 rfl (by simp) mixed (by kernel_rfl) fun gn => ?_
  simp
  refine (awake_ok _).mono fun r gl' h => ?_
  subst h
  by_cases ha : a.length ≤ 60
  · by_cases hb : b.length ≤ 60
    · have ha' : ¬ (60 : Int) < a.length := by omega
      have hb' : ¬ (60 : Int) < b.length := by omega
      have hza := ofT_sz a
      have hzb := ofT_sz b
      have h1 := meldSz (ofT a) (ofT b)
      have h2 := meldSz (ofT a) (ofT a)
      simp [ha', hb']
      refine pcut_at [(0, .pv (.list (a.map eC))), (1, .pv (.list (b.map eC)))] [] gl' gn (by simp) ?_
      simp
      refine (ofN_ok a (by omega) _).use ?_
      simp
      refine (ofN_ok b (by omega) _).use ?_
      simp
      refine (meldN_ok (ofT a) (ofT b) (by omega) _).use ?_
      simp
      refine (meldN_ok (ofT a) (ofT a) (by omega) _).use ?_
      simp
      refine (sort_ok a (by omega) _).use ?_
      simp
      refine (sort_ok b (by omega) _).use ?_
      simp
      refine pcut_at [(0, .pv (.list (a.map eC))), (1, .pv (.list (b.map eC))), (6, .loc 6 0), (7, .loc 7 0), (8, .loc 8 0), (9, .loc 9 0), (10, .pv (.list ((sortL a).map eC))), (11, .pv (.list ((sortL b).map eC)))]
        [(6, [(ofT a).pt]), (7, [(ofT b).pt]), (8, [(LT.meld (ofT a) (ofT b)).1.pt]), (9, [(LT.meld (ofT a) (ofT a)).1.pt])] gl' gn (by simp) ?_
      have e1 : sortL (LT.meld (ofT a) (ofT b)).1.els = sumL (sortL a) (sortL b) := by
        rw [sumL_sort]; exact sort_perm ((meld_perm _ _).trans ((ofT_perm a).append (ofT_perm b)))
      have e2 : sortL (LT.meld (ofT a) (ofT a)).1.els = sumL (sortL a) (sortL a) := by
        rw [sumL_sort]; exact sort_perm ((meld_perm _ _).trans ((ofT_perm a).append (ofT_perm a)))
      have e3 : sortL (ofT a).els = sortL a := sort_perm (ofT_perm a)
      have e4 : sortL (ofT b).els = sortL b := sort_perm (ofT_perm b)
      simp
      refine (drainN_ok _ 300 _ e1 (by omega) (by omega) (meld_hp _ _ (ofT_hp a) (ofT_hp b)) (by omega) _).use ?_
      simp
      refine (drainN_ok _ 300 _ e2 (by omega) (by omega) (meld_hp _ _ (ofT_hp a) (ofT_hp a)) (by omega) _).use ?_
      simp
      refine (drainN_ok _ 300 _ e3 (by omega) (by omega) (ofT_hp a) (by omega) _).use ?_
      simp
      refine (drainN_ok _ 300 _ e4 (by omega) (by omega) (ofT_hp b) (by omega) _).use ?_
      simp
      refine pcut_at [(0, .pv (.list (a.map eC))), (1, .pv (.list (b.map eC))), (8, .loc 8 0), (9, .loc 9 0), (10, .pv (.list ((sortL a).map eC))), (11, .pv (.list ((sortL b).map eC))),
          (12, .pv (.list ((sumL (sortL a) (sortL b)).map eC))), (13, .pv (.list ((sumL (sortL a) (sortL a)).map eC))), (14, .pv (.list ((sortL a).map eC))), (15, .pv (.list ((sortL b).map eC)))]
        [(8, [(LT.meld (ofT a) (ofT b)).1.pt]), (9, [(LT.meld (ofT a) (ofT a)).1.pt])] gl' gn (by simp) ?_
      have la := sortL_len a
      have lb := sortL_len b
      have ls := sumL_len (sortL a) (sortL b)
      have lt := sumL_len (sortL a) (sortL a)
      have ls' := sumL_len (sortL b) (sortL a)
      simp
      refine (sum_ok (sortL a) (sortL b) (by omega) (by omega) _).use ?_
      simp
      refine (sameN_ok _ _ rfl (by omega) _).use ?_
      simp
      refine (sum_ok (sortL a) (sortL a) (by omega) (by omega) _).use ?_
      simp
      refine (sameN_ok _ _ rfl (by omega) _).use ?_
      simp
      refine (sameN_ok _ _ rfl (by omega) _).use ?_
      simp
      refine (sameN_ok _ _ rfl (by omega) _).use ?_
      simp
      refine (sizeN_ok _ _).use ?_
      have f1 : ((LT.meld (ofT a) (ofT b)).1.sz : Int) == IntKind.i64.wrap ((a.length : Int) + b.length) := by
        rw [wr _ (by omega) (by omega), beq_iff_eq]; omega
      have f2 : ((LT.meld (ofT a) (ofT a)).1.sz : Int) == IntKind.i64.wrap (2 * (a.length : Int)) := by
        rw [wr _ (by omega) (by omega), beq_iff_eq]; omega
      simp [f1]
      refine (sizeN_ok _ _).use ?_
      simp [f2]
    · have ha' : ¬ (60 : Int) < a.length := by omega
      have hb' : (60 : Int) < b.length := by omega
      simp [ha', hb']
  · have ha' : (60 : Int) < a.length := by omega
    simp [ha']
end Go.Proofs.YtgbcjpdhmjikgaaDoor
