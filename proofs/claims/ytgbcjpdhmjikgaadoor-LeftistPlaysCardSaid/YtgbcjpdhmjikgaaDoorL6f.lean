/- LeftistFolds. -/
import Derived.Test.YtgbcjpdhmjikgaaDoorD2
namespace Go.Proofs.YtgbcjpdhmjikgaaDoor
set_option linter.unusedSimpArgs false
set_option linter.unusedVariables false

/-- What putting in elements, one by one, counts. -/
def cntT : LT → List El → Int × Int
  | _, [] => (0, 0)
  | t, x :: l => (((t.ins x.1 x.2).2 : Int) + (cntT (t.ins x.1 x.2).1 l).1, ((t.ins x.1 x.2).2 : Int) + 1 + (cntT (t.ins x.1 x.2).1 l).2)

theorem ofK_cnt (k : Nat) : ∀ (l : List El) (t : LT) (gl : Nat → Int × Int), (l.foldl (fun (s : LT × (Nat → Int × Int)) x => ((s.1.ins x.1 x.2).1, tick (some k) (s.1.ins x.1 x.2).2 ((s.1.ins x.1 x.2).2 + 1) s.2)) (t, gl)).2 = upd gl k ((gl k).1 + (cntT t l).1, (gl k).2 + (cntT t l).2)
  | [], t, gl => by
    funext j
    simp [cntT, upd_apply]
    intro h; subst h; rfl
  | x :: l, t, gl => by
    rw [List.foldl_cons, ofK_cnt k l]
    simp [tick, cntT, Int.add_assoc]

theorem foldIns_snoc (l : List El) (t : LT) (x : El) : (l ++ [x]).foldl (fun t x => (t.ins x.1 x.2).1) t = ((l.foldl (fun t x => (t.ins x.1 x.2).1) t).ins x.1 x.2).1 := by rw [List.foldl_append]; rfl
theorem cntT_snoc : ∀ (l : List El) (t : LT) (x : El), cntT t (l ++ [x]) = ((cntT t l).1 + (((l.foldl (fun t x => (t.ins x.1 x.2).1) t).ins x.1 x.2).2 : Int), (cntT t l).2 + ((((l.foldl (fun t x => (t.ins x.1 x.2).1) t).ins x.1 x.2).2 : Int) + 1))
  | [], t, x => by simp [cntT]
  | y :: l, t, x => by
    simp only [List.cons_append, cntT, List.foldl_cons]
    rw [cntT_snoc l]
    simp [Int.add_assoc]
theorem ofT_next (l : List El) (k : Nat) (h : k < l.length) : ofT (l.take (k + 1)) = ((ofT (l.take k)).ins l[k].1 l[k].2).1 := by
  rw [List.take_succ_eq_append_getElem h]; exact foldIns_snoc _ _ _
theorem cnt_next (l : List El) (k : Nat) (h : k < l.length) : cntT .nil (l.take (k + 1)) = ((cntT .nil (l.take k)).1 + (((ofT (l.take k)).ins l[k].1 l[k].2).2 : Int), (cntT .nil (l.take k)).2 + ((((ofT (l.take k)).ins l[k].1 l[k].2).2 : Int) + 1)) := by
  rw [List.take_succ_eq_append_getElem h]; exact cntT_snoc _ _ _

set_option maxHeartbeats 8000000 in
set_option maxRecDepth 4000 in
theorem folds_ok (a : List El) (wa : ∀ x ∈ a, inE x) (gl : Nat → Int × Int) : PCalls Tryd.prog 10 [.pv (.list (a.map eC))] gl fun r _ => r = .pv (.bool true) := by
  have CO : a.length ≤ 60 → ∀ (gl' : Nat → Int × Int) (gn : Nat), PCalls Tryd.prog 15 [.mtr gn 0, .pv (.list (a.map eC))] (upd (upd gl' gn (0, 0)) (gn + 1) (0, 0)) fun r gl2 => r = .pv (.agg [(ofT a).pt]) ∧ gl2 = upd (upd gl' gn (cntT .nil a)) (gn + 1) (0, 0) := by
    intro hl gl' gn
    refine (ofM_ok (some gn) a (by omega) _).mono fun r gl2 h => ⟨h.1, h.2.trans ?_⟩
    refine (ofK_cnt gn a .nil _).trans ?_
    funext j
    simp only [upd_apply]
    by_cases h1 : j = gn
    · subst h1; simp
    · by_cases h2 : j = gn + 1
      · simp [h1, h2]
      · simp [h1, h2]
  have CI : a.length ≤ 60 → ∀ (gl' : Nat → Int × Int) (gn : Nat) (C : Int × Int) (j : Nat) (h : j < a.length), PCalls Tryd.prog 24 [.pv (.agg [(ofT (a.take j)).pt]), .mtr (gn + 1) 0, .pv (.agg [.int .i64 a[j].1, .int .i64 a[j].2])] (upd (upd gl' gn C) (gn + 1) (cntT .nil (a.take j))) fun r gl2 => r = .pv (.agg [(ofT (a.take (j + 1))).pt]) ∧ gl2 = upd (upd gl' gn C) (gn + 1) (cntT .nil (a.take (j + 1))) := by
    intro hl gl' gn C j h
    have hz := ofT_sz (a.take j)
    have hz2 := List.length_take_le j a
    refine (insM_ok (some (gn + 1)) _ _ _ (by omega) _).mono fun r gl2 e => ⟨?_, e.2.trans ?_⟩
    · rw [ofT_next a j h]; exact e.1
    · rw [cnt_next a j h]
      simp [tick]
  refine pcalls_of_pwp (cutImm [6, 14, 16] noImm) Tryd.func10 rfl (by simp) mixed (by kernel_rfl) fun gn => ?_
  simp
  refine (awake_ok _).mono fun r gl' h => ?_
  subst h
  by_cases ha' : (60 : Int) < a.length
  · simp [ha']
  · simp [ha']
    have hl : a.length ≤ 60 := by omega
    have hza := ofT_sz a
    refine pcut_at [(0, .pv (.list (a.map eC)))] [] gl' gn (by simp) ?_
    simp
    refine (new_ok _).use ?_
    simp
    refine (new_ok _).use ?_
    simp
    refine (CO hl gl' gn).use ?_
    simp
    refine pwp_loopS (α := Nat × LT) (fun s => s.1 ≤ a.length ∧ Is s.2 (a.take s.1))
      (fun s => [(0, .pv (.list (a.map eC))), (4, .mtr gn 0), (5, .mtr (gn + 1) 0), (6, .loc 6 0), (7, .loc 7 0), (8, .loc 8 0), (9, .pv (.int .i64 s.1))])
      (fun s => [(6, [(ofT a).pt]), (7, [(ofT (a.take s.1)).pt]), (8, [s.2.pt])]) (fun s => upd (upd gl' gn (cntT .nil a)) (gn + 1) (cntT .nil (a.take s.1))) (fun _ => gn + 2) (fun s => a.length - s.1) (0, .nil) ⟨by simp, Is.nil⟩ (by simp [ofT, LT.pt, cntT]) ?_
    rintro ⟨k, o⟩ ⟨hk, ho⟩
    simp only at hk ho
    by_cases hlt : k < a.length
    · simp [hlt]
      have hos := ho.sz
      have ho2 : (a.take k).length ≤ 60 := by rw [List.length_take]; omega
      have hone := (Is.of [a[k]])
      have hon := ho.meld hone
      have hsz1 : (ofT [a[k]]).sz = 1 := hone.sz
      refine pcut_at [(0, .pv (.list (a.map eC))), (4, .mtr gn 0), (5, .mtr (gn + 1) 0), (6, .loc 6 0), (7, .loc 7 0), (8, .loc 8 0), (9, .pv (.int .i64 k))]
        [(6, [(ofT a).pt]), (7, [(ofT (a.take k)).pt]), (8, [o.pt])] (upd (upd gl' gn (cntT .nil a)) (gn + 1) (cntT .nil (a.take k))) (gn + 2) (by simp) ?_
      simp [hlt, wide2, eC]
      refine (CI hl gl' gn _ k hlt).use ?_
      simp [hlt, wide2, eC]
      refine (ofN_ok [a[k]] (by simp) _).use ?_
      simp
      refine (meldN_ok o (ofT [a[k]]) (by omega) _).use ?_
      simp
      refine ⟨k + 1, (o.meld (ofT [a[k]])).1, ⟨hlt, ?_⟩, by omega, wr _ (by omega) (by omega), ⟨rfl, rfl⟩, rfl⟩
      rw [List.take_succ_eq_append_getElem hlt]; exact hon
    · simp [hlt]
      have hka : k = a.length := by omega
      have ho' : Is o a := by rw [hka, List.take_length] at ho; exact ho
      have hos := ho'.sz
      have hla := sortL_len a
      have htk : a.take k = a := List.take_of_length_le (by omega)
      refine pcut_at [(0, .pv (.list (a.map eC))), (4, .mtr gn 0), (5, .mtr (gn + 1) 0), (6, .loc 6 0), (7, .loc 7 0), (8, .loc 8 0)]
        [(6, [(ofT a).pt]), (7, [(ofT a).pt]), (8, [o.pt])] (upd (upd gl' gn (cntT .nil a)) (gn + 1) (cntT .nil a)) (gn + 2) (by simp [htk]) ?_
      simp
      refine (showN_ok (ofT a) _ ((Is.of a).ok wa) (by omega)).use ?_
      simp
      refine (showN_ok (ofT a) _ ((Is.of a).ok wa) (by omega)).use ?_
      simp
      refine (mSteps_ok (some gn) _).use ?_
      simp [steps, upd_apply]
      refine (mSteps_ok (some (gn + 1)) _).use ?_
      simp [steps, upd_apply]
      refine (sizeN_ok _ _).use ?_
      simp [hos]
      refine (drI_ok ho' a (.refl _) 200 (by omega) (by omega) (by omega) _).use ?_
      simp
      refine (sort_ok a (by omega) _).use ?_
      simp
      refine (sameN_ok _ _ rfl (by omega) _).use ?_
      simp
end Go.Proofs.YtgbcjpdhmjikgaaDoor
