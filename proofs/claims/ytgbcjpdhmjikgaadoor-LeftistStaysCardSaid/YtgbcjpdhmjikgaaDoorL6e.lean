/- LeftistStays. -/
import Derived.Test.YtgbcjpdhmjikgaaDoorD2
namespace Go.Proofs.YtgbcjpdhmjikgaaDoor
set_option linter.unusedSimpArgs false

set_option maxHeartbeats 8000000 in
set_option maxRecDepth 4000 in
theorem stays_ok (a b : List El) (x : El) (n : Int) (wa : ∀ x ∈ a, inE x) (wb : ∀ x ∈ b, inE x) (_ : inE x) (hn : 0 ≤ n ∧ n < 256) (gl : Nat → Int × Int) : PCalls Tryd.prog 7 [.pv (.list (a.map eC)), .pv (.list (b.map eC)), .pv (.agg (eC x)), .pv (.int .u8 n)] gl fun r _ => r = .pv (.bool true) := by
  obtain ⟨p, i⟩ := x
  refine pcalls_of_pwp (cutImm [6, 12, 16, 20, 26] noImm) Tryd.func7 rfl (by simp) mixed (by kernel_rfl) fun gn => ?_
  simp [eC]
  refine (awake_ok _).mono fun r gl' h => ?_
  subst h
  by_cases ha' : (40 : Int) < a.length
  · simp [ha']
  · by_cases hb' : (40 : Int) < b.length
    · simp [ha', hb']
    · simp [ha', hb']
      have xa := Is.of a
      have xb := Is.of b
      have sa := xa.sz
      have sb := xb.sz
      have la := sortL_len a
      have lb := sortL_len b
      refine pcut_at [(0, .pv (.list (a.map eC))), (1, .pv (.list (b.map eC))), (3, .pv (.int .u8 n)), (6, .loc 6 0)] [(6, [.int .i64 p, .int .i64 i])] gl' gn (by simp) ?_
      simp
      refine (ofN_ok a (by omega) _).use ?_
      simp
      refine (ofN_ok b (by omega) _).use ?_
      simp
      refine (showN_ok (ofT a) _ (xa.ok wa) (by omega)).use ?_
      simp
      refine (showN_ok (ofT b) _ (xb.ok wb) (by omega)).use ?_
      simp
      refine (drI_ok xa a (.refl _) 200 (by omega) (by omega) (by omega) _).use ?_
      simp
      refine (drI_ok xb b (.refl _) 200 (by omega) (by omega) (by omega) _).use ?_
      simp
      refine pcut_at [(3, .pv (.int .u8 n)), (6, .loc 6 0), (10, .loc 10 0), (11, .loc 11 0), (12, .pv (.str (ofT a).text)), (13, .pv (.str (ofT b).text)), (14, .pv (.list ((sortL a).map eC))), (15, .pv (.list ((sortL b).map eC)))]
        [(6, [.int .i64 p, .int .i64 i]), (10, [(ofT a).pt]), (11, [(ofT b).pt])] gl' gn (by simp) ?_
      simp
      refine (new_ok _).use ?_
      simp
      refine pwp_loopS (α := Nat × (Nat → Int × Int)) (fun s => s.1 ≤ 6)
        (fun s => [(3, .pv (.int .u8 n)), (6, .loc 6 0), (10, .loc 10 0), (11, .loc 11 0), (12, .pv (.str (ofT a).text)), (13, .pv (.str (ofT b).text)), (14, .pv (.list ((sortL a).map eC))), (15, .pv (.list ((sortL b).map eC))), (16, .mtr gn 0), (17, .pv (.int .i64 s.1))])
        (fun _ => [(6, [.int .i64 p, .int .i64 i]), (10, [(ofT a).pt]), (11, [(ofT b).pt])]) (fun s => s.2) (fun _ => gn + 1) (fun s => 6 - s.1) (0, upd gl' gn (0, 0)) (by simp) (by simp) ?_
      rintro ⟨k, gs⟩ hk
      simp only at hk
      have hw : IntKind.i64.wrap n = n := wr _ (by omega) (by omega)
      have hm := u8_mod n 6 hn.1
      by_cases hlt : (k : Int) < n % 6
      · simp [hw, hm, hlt]
        have y1 := xa.meld xb
        have y2 := y1.ins p i
        have y3 : Is (((ofT a).meld (ofT b)).1.ins p i).1.pop.1 _ := ⟨pop_hp _ y2.hp, .refl _⟩
        have y4 : Is (((ofT a).meld (ofT b)).1.ins p i).1.pop.1.pop.1 _ := ⟨pop_hp _ y3.hp, .refl _⟩
        have z1 := y1.sz
        have z2 := y2.sz
        simp at z1 z2
        have z3 := pop_sz (((ofT a).meld (ofT b)).1.ins p i).1
        have z4 := pop_sz (((ofT a).meld (ofT b)).1.ins p i).1.pop.1
        have z5 := meldSz (((ofT a).meld (ofT b)).1.ins p i).1.pop.1.pop.1 (ofT a)
        refine pcut_at [(3, .pv (.int .u8 n)), (6, .loc 6 0), (10, .loc 10 0), (11, .loc 11 0), (12, .pv (.str (ofT a).text)), (13, .pv (.str (ofT b).text)), (14, .pv (.list ((sortL a).map eC))), (15, .pv (.list ((sortL b).map eC))), (16, .mtr gn 0), (17, .pv (.int .i64 k))]
          [(6, [.int .i64 p, .int .i64 i]), (10, [(ofT a).pt]), (11, [(ofT b).pt])] gs (gn + 1) (by simp) ?_
        simp
        refine (meldM_ok (some gn) (ofT a) (ofT b) (by omega) _).use ?_
        simp
        refine (insM_ok (some gn) ((ofT a).meld (ofT b)).1 p i (by omega) _).use ?_
        simp
        refine (popM_ok (some gn) (((ofT a).meld (ofT b)).1.ins p i).1 (by omega) _).use ?_
        simp
        refine (popM_ok (some gn) (((ofT a).meld (ofT b)).1.ins p i).1.pop.1 (by omega) _).use ?_
        simp [tick_tick]
        generalize tick (some gn) _ _ gs = gs1
        refine pcut_at [(3, .pv (.int .u8 n)), (6, .loc 6 0), (10, .loc 10 0), (11, .loc 11 0), (12, .pv (.str (ofT a).text)), (13, .pv (.str (ofT b).text)), (14, .pv (.list ((sortL a).map eC))), (15, .pv (.list ((sortL b).map eC))), (16, .mtr gn 0), (17, .pv (.int .i64 k)), (19, .loc 19 0)]
          [(6, [.int .i64 p, .int .i64 i]), (10, [(ofT a).pt]), (11, [(ofT b).pt]), (19, [(((ofT a).meld (ofT b)).1.ins p i).1.pop.1.pop.1.pt])] gs1 (gn + 1) (by simp) ?_
        simp
        refine (meldM_ok (some gn) _ (ofT a) (by omega) _).use ?_
        simp
        refine (insM_ok (some gn) (ofT a) p i (by omega) _).use ?_
        simp
        refine (popM_ok (some gn) (ofT b) (by omega) _).use ?_
        simp
        refine (popM_ok (some gn) (ofT a) (by omega) _).use ?_
        simp
        refine (minM_ok (some gn) (ofT a) _).use ?_
        simp
        refine (sizeN_ok _ _).use ?_
        simp
        refine ⟨k + 1, ⟨by omega, by omega, wr _ (by omega) (by omega)⟩⟩
      · simp [hw, hm, hlt]
        refine pcut_at [(10, .loc 10 0), (11, .loc 11 0), (12, .pv (.str (ofT a).text)), (13, .pv (.str (ofT b).text)), (14, .pv (.list ((sortL a).map eC))), (15, .pv (.list ((sortL b).map eC)))]
          [(10, [(ofT a).pt]), (11, [(ofT b).pt])] gs (gn + 1) (by simp) ?_
        simp
        refine (showN_ok (ofT a) _ (xa.ok wa) (by omega)).use ?_
        simp
        refine (showN_ok (ofT b) _ (xb.ok wb) (by omega)).use ?_
        simp
        refine (drI_ok xa a (.refl _) 200 (by omega) (by omega) (by omega) _).use ?_
        simp
        refine (sameN_ok _ _ rfl (by omega) _).use ?_
        simp
        refine (drI_ok xb b (.refl _) 200 (by omega) (by omega) (by omega) _).use ?_
        simp
        refine (sameN_ok _ _ rfl (by omega) _).use ?_
        simp
end Go.Proofs.YtgbcjpdhmjikgaaDoor
