/- LeftistCommutes. -/
import Derived.Test.YtgbcjpdhmjikgaaDoorD2
namespace Go.Proofs.YtgbcjpdhmjikgaaDoor
set_option linter.unusedSimpArgs false

set_option maxHeartbeats 8000000 in
set_option maxRecDepth 4000 in
theorem commutes_ok (a b c : List El) (_ : ∀ x ∈ a, inE x) (_ : ∀ x ∈ b, inE x) (_ : ∀ x ∈ c, inE x) (gl : Nat → Int × Int) : PCalls Tryd.prog 5 [.pv (.list (a.map eC)), .pv (.list (b.map eC)), .pv (.list (c.map eC))] gl fun r _ => r = .pv (.bool true) := by
  refine pcalls_of_pwp (cutImm [6, 9, 10, 11, 12, 13, 14] noImm) Tryd.func5 rfl (by simp) mixed (by kernel_rfl) fun gn => ?_
  simp
  refine (awake_ok _).mono fun r gl' h => ?_
  subst h
  by_cases ha' : (30 : Int) < a.length
  · simp [ha']
  · by_cases hb' : (30 : Int) < b.length
    · simp [ha', hb']
    · by_cases hc' : (30 : Int) < c.length
      · simp [ha', hb', hc']
      · simp [ha', hb', hc']
        have xa := Is.of a
        have xb := Is.of b
        have xc := Is.of c
        have sa := xa.sz
        have sb := xb.sz
        have sc := xc.sz
        have e1 : (a ++ b ++ c).Perm (a ++ (b ++ c)) := by rw [List.append_assoc]
        have e2 : (c ++ a ++ b).Perm (a ++ (b ++ c)) := by rw [← List.append_assoc a, List.append_assoc c]; exact List.perm_append_comm
        have e3 : (b ++ a).Perm (a ++ b) := List.perm_append_comm
        refine pcut_at [(0, .pv (.list (a.map eC))), (1, .pv (.list (b.map eC))), (2, .pv (.list (c.map eC)))] [] gl' gn (by simp) ?_
        simp
        refine (ofN_ok a (by omega) _).use ?_
        simp
        refine (ofN_ok b (by omega) _).use ?_
        simp
        refine (ofN_ok c (by omega) _).use ?_
        simp
        refine pcut_at [(0, .pv (.list (a.map eC))), (1, .pv (.list (b.map eC))), (2, .pv (.list (c.map eC))), (8, .loc 8 0), (9, .loc 9 0), (10, .loc 10 0)]
          [(8, [(ofT a).pt]), (9, [(ofT b).pt]), (10, [(ofT c).pt])] gl' gn (by simp) ?_
        simp
        refine (meldN_ok _ _ (by omega) _).use ?_
        simp
        refine (meldN_ok _ _ (by rw [(xa.meld xb).sz]; simp; omega) _).use ?_
        simp
        refine (drI_ok ((xa.meld xb).meld xc) (a ++ (b ++ c)) e1 200 (by omega) (by omega) (by simp; omega) _).use ?_
        simp
        refine pcut_at [(0, .pv (.list (a.map eC))), (1, .pv (.list (b.map eC))), (2, .pv (.list (c.map eC))), (8, .loc 8 0), (9, .loc 9 0), (10, .loc 10 0), (11, .pv (.list ((sortL (a ++ (b ++ c))).map eC)))]
          [(8, [(ofT a).pt]), (9, [(ofT b).pt]), (10, [(ofT c).pt])] gl' gn (by simp) ?_
        simp
        refine (meldN_ok _ _ (by omega) _).use ?_
        simp
        refine (meldN_ok _ _ (by rw [(xb.meld xc).sz]; simp; omega) _).use ?_
        simp
        refine (drI_ok (xa.meld (xb.meld xc)) (a ++ (b ++ c)) (.refl _) 200 (by omega) (by omega) (by simp; omega) _).use ?_
        simp
        refine pcut_at [(0, .pv (.list (a.map eC))), (1, .pv (.list (b.map eC))), (2, .pv (.list (c.map eC))), (8, .loc 8 0), (9, .loc 9 0), (10, .loc 10 0), (11, .pv (.list ((sortL (a ++ (b ++ c))).map eC))), (12, .pv (.list ((sortL (a ++ (b ++ c))).map eC)))]
          [(8, [(ofT a).pt]), (9, [(ofT b).pt]), (10, [(ofT c).pt])] gl' gn (by simp) ?_
        simp
        refine (meldN_ok _ _ (by omega) _).use ?_
        simp
        refine (meldN_ok _ _ (by rw [(xc.meld xa).sz]; simp; omega) _).use ?_
        simp
        refine (drI_ok ((xc.meld xa).meld xb) (a ++ (b ++ c)) e2 200 (by omega) (by omega) (by simp; omega) _).use ?_
        simp
        refine pcut_at [(0, .pv (.list (a.map eC))), (1, .pv (.list (b.map eC))), (2, .pv (.list (c.map eC))), (8, .loc 8 0), (9, .loc 9 0), (10, .loc 10 0), (11, .pv (.list ((sortL (a ++ (b ++ c))).map eC))), (12, .pv (.list ((sortL (a ++ (b ++ c))).map eC))), (13, .pv (.list ((sortL (a ++ (b ++ c))).map eC)))]
          [(8, [(ofT a).pt]), (9, [(ofT b).pt]), (10, [(ofT c).pt])] gl' gn (by simp) ?_
        simp
        refine (meldN_ok _ _ (by omega) _).use ?_
        simp
        refine (drI_ok (xb.meld xa) (a ++ b) e3 200 (by omega) (by omega) (by simp; omega) _).use ?_
        simp
        refine pcut_at [(0, .pv (.list (a.map eC))), (1, .pv (.list (b.map eC))), (2, .pv (.list (c.map eC))), (8, .loc 8 0), (9, .loc 9 0), (11, .pv (.list ((sortL (a ++ (b ++ c))).map eC))), (12, .pv (.list ((sortL (a ++ (b ++ c))).map eC))), (13, .pv (.list ((sortL (a ++ (b ++ c))).map eC))), (14, .pv (.list ((sortL (a ++ b)).map eC)))]
          [(8, [(ofT a).pt]), (9, [(ofT b).pt])] gl' gn (by simp) ?_
        simp
        refine (meldN_ok _ _ (by omega) _).use ?_
        simp
        refine (drI_ok (xa.meld xb) (a ++ b) (.refl _) 200 (by omega) (by omega) (by simp; omega) _).use ?_
        simp
        refine pcut_at [(0, .pv (.list (a.map eC))), (1, .pv (.list (b.map eC))), (2, .pv (.list (c.map eC))), (11, .pv (.list ((sortL (a ++ (b ++ c))).map eC))), (12, .pv (.list ((sortL (a ++ (b ++ c))).map eC))), (13, .pv (.list ((sortL (a ++ (b ++ c))).map eC))), (14, .pv (.list ((sortL (a ++ b)).map eC))), (15, .pv (.list ((sortL (a ++ b)).map eC)))]
          [] gl' gn (by simp) ?_
        have l1 : (sortL (a ++ (b ++ c))).length = a.length + b.length + c.length := by rw [sortL_len]; simp [Nat.add_assoc]
        have l2 : (sortL (a ++ b)).length = a.length + b.length := by rw [sortL_len]; simp [Nat.add_assoc]
        have f1 : ((sortL (a ++ (b ++ c))).length : Int) == IntKind.i64.wrap (IntKind.i64.wrap ((a.length : Int) + b.length) + c.length) := by
          rw [wr ((a.length : Int) + b.length) (by omega) (by omega), wr _ (by omega) (by omega), beq_iff_eq]; omega
        simp
        refine (sameN_ok _ _ rfl (by omega) _).use ?_
        simp
        refine (sameN_ok _ _ rfl (by omega) _).use ?_
        simp
        refine (sameN_ok _ _ rfl (by omega) _).use ?_
        simp [f1]
end Go.Proofs.YtgbcjpdhmjikgaaDoor
