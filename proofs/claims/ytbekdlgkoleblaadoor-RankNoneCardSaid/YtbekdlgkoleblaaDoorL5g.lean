/- RankNone: the contract. -/
import Derived.Test.YtbekdlgkoleblaaDoorL5d
namespace Go.Proofs.YtbekdlgkoleblaaDoor
set_option linter.unusedSimpArgs false
set_option linter.unusedVariables false

set_option maxHeartbeats 32000000 in
set_option maxRecDepth 4000 in
theorem none_ok (x y : El) (hx : inE x) (hy : inE y) (gl : Nat → Int × Int) : PCalls Tryd.prog 6 [.pv (.agg (eC x)), .pv (.agg (eC y))] gl fun r _ => r = .pv (.bool true) := by
  have hxz : (RT.leaf x).sz = 1 := by simp [RT.leaf, RT.sz, RT.szL]
  have hL : ∀ v u, some (RT.leaf v) = some u → u.sz ≤ 100000 ∧ -1000000 ≤ u.rank ∧ u.rank ≤ 1000000 := by rintro v u ⟨rfl⟩; simp [RT.leaf, RT.rank, RT.sz, RT.szL]
  have hN : ∀ u, (none : Option RT) = some u → u.sz ≤ 100000 ∧ -1000000 ≤ u.rank ∧ u.rank ≤ 1000000 := by rintro u ⟨⟩
  have hS : oSkew y (some (RT.leaf x)) none = (RT.skew y (RT.leaf x), 2) := by rw [oSkew_eq]; rfl
  have hS0 : oSkew y none none = (RT.leaf y, 1) := by rw [oSkew_eq]; rfl
  have hSz : (RT.skew y (RT.leaf x)).sz = 2 := by rw [skew_sz, hxz]
  have hSr : (RT.skew y (RT.leaf x)).rank = 0 := by rw [skew_rank]; rfl
  have hYt : (RT.leaf y).text = 40 :: (txt y.1 y.2 ++ [41]) := by rw [text_eq]; simp [RT.leaf, RT.x, RT.beside, RT.kids, besT, RT.textL]
  have hYok : (RT.leaf y).ok := fun z hz => by
    have : z = y := by simpa [RT.leaf, RT.all, RT.allL] using hz
    subst this; exact hy
  have ty := txt_len y.1 y.2 hy.1 hy.2
  generalize hSS : RT.skew y (RT.leaf x) = SS at hS hSz hSr
  generalize hX : RT.leaf x = X at hS hxz hSS
  generalize hY : RT.leaf y = Y at hS0 hYt hYok
  have cX : ∀ m gl, PCalls Tryd.prog 9 [mv m, .pv (.agg [.int .i64 x.1, .int .i64 x.2])] gl fun r gl' => ∃ b o, r = .pv (.refAt b o [.int .i64 X.rank, .int .i64 X.x.1, .int .i64 X.x.2, .list (X.beside.map eC), .list (RT.ptL X.kids), .int .i64 (X.sz : Int)] 0) ∧ gl' = tick m 0 1 gl := fun m gl => by
    have := rLeaf_ok m x gl
    rw [hX, pt_eq] at this
    exact this.known
  have cS : ∀ m b o gl, PCalls Tryd.prog 10 [mv m, .pv (.agg [.int .i64 y.1, .int .i64 y.2]), .pv (.refAt b o [.int .i64 X.rank, .int .i64 X.x.1, .int .i64 X.x.2, .list (X.beside.map eC), .list (RT.ptL X.kids), .int .i64 (X.sz : Int)] 0), .pv .nilp] gl fun r gl' => r = .pv SS.pt ∧ gl' = tick m 0 1 (tick m 1 0 gl) := fun m b o gl => by
    have := rSkew_ok m y (some X) none (by rw [← hX]; exact hL x) hN (by rintro u ⟨rfl⟩; omega) gl
    rw [hS] at this
    have h2 := PCalls.anywhere (pre := [mv m, .pv (.agg [.int .i64 y.1, .int .i64 y.2])]) (post := [.pv .nilp]) b o (cells := [.int .i64 X.rank, .int .i64 X.x.1, .int .i64 X.x.2, .list (X.beside.map eC), .list (RT.ptL X.kids), .int .i64 (X.sz : Int)]) (off := 0) (by rw [← pt_eq]; exact this)
    exact h2
  have cS0 : ∀ m gl, PCalls Tryd.prog 10 [mv m, .pv (.agg [.int .i64 y.1, .int .i64 y.2]), .pv .nilp, .pv .nilp] gl fun r gl' => r = .pv Y.pt ∧ gl' = tick m 0 1 gl := fun m gl => by
    have := rSkew_ok m y none none hN hN (by rintro u ⟨⟩) gl
    rw [hS0] at this
    exact this
  generalize hcells : [PV.int .i64 X.rank, .int .i64 X.x.1, .int .i64 X.x.2, .list (X.beside.map eC), .list (RT.ptL X.kids), .int .i64 (X.sz : Int)] = cX' at cX cS
  have hNone : ∀ u : RT, (none : Option RT) = some u → u.sz ≤ 1000000 := by rintro u ⟨⟩
  have cRoot0 : ∀ gl, PCalls Tryd.prog 12 [.pv .nilp] gl fun r gl' => r = .tup [.pv (.agg [.int .i64 0, .int .i64 0]), .pv (.bool false)] ∧ gl' = gl := fun gl => cRoot none gl
  have cRank0 : ∀ gl, PCalls Tryd.prog 14 [.pv .nilp] gl fun r gl' => r = .pv (.int .i64 (-1)) ∧ gl' = gl := fun gl => cRank none gl
  have cSize0 : ∀ gl, PCalls Tryd.prog 16 [.pv .nilp] gl fun r gl' => r = .pv (.int .i64 0) ∧ gl' = gl := fun gl => cSize none gl
  have cAll0 : ∀ gl, PCalls Tryd.prog 18 [.pv .nilp] gl fun r gl' => r = .fresh [] ∧ gl' = gl := fun gl => cAll none hNone gl
  have cKids0 : ∀ gl, PCalls Tryd.prog 31 [.pv .nilp] gl fun r gl' => r = .fresh [] ∧ gl' = gl := fun gl => rKids_ok none hNone gl
  have cBes0 : ∀ gl, PCalls Tryd.prog 20 [.pv .nilp] gl fun r gl' => r = .fresh [] ∧ gl' = gl := fun gl => rBeside_ok none hNone gl
  have cRight0 : ∀ gl, PCalls Tryd.prog 15 [.pv .nilp] gl fun r gl' => r = .pv (.bool true) ∧ gl' = gl := fun gl => rRight_ok none hNone gl
  have cShow0 : ∀ gl, PCalls Tryd.prog 26 [.pv .nilp] gl fun r gl' => r = .pv (.str [46]) ∧ gl' = gl := fun gl => rShow_ok none (by rintro u ⟨⟩) gl
  have cLink0 : ∀ m gl, PCalls Tryd.prog 11 [mv m, .pv .nilp, .pv .nilp] gl fun r gl' => r = .pv .nilp ∧ gl' = gl := fun m gl => rLink_ok m none none hN hN gl
  have cShowY : ∀ gl, PCalls Tryd.prog 26 [.pv Y.pt] gl fun r gl' => r = .pv (.str (40 :: (txt y.1 y.2 ++ [41]))) ∧ gl' = gl := fun gl => by
    have hYz : Y.sz = 1 := by rw [← hY]; simp [RT.leaf, RT.sz, RT.szL]
    have := rShow_ok (some Y) (by rintro u ⟨rfl⟩; exact ⟨by omega, hYok⟩) gl
    simp only [oText, hYt] at this
    exact this
  have cSizeS : ∀ gl, PCalls Tryd.prog 16 [.pv SS.pt] gl fun r gl' => r = .pv (.int .i64 2) ∧ gl' = gl := fun gl => by
    have := cSize (some SS) gl
    simp only [oSz, hSz] at this
    exact this
  have cRankS : ∀ gl, PCalls Tryd.prog 14 [.pv SS.pt] gl fun r gl' => r = .pv (.int .i64 0) ∧ gl' = gl := fun gl => by
    have := cRank (some SS) gl
    simp only [oRank, hSr] at this
    exact this
  clear hS hS0 hSz hSr hYt hYok hL hN hSS hX hY
  refine pcalls_of_pwp (cutImm [4, 12] noImm) Tryd.func6 rfl (by simp) mixed (by kernel_rfl) fun gn => ?_
  simp
  refine (awake_ok gl).mono ?_
  rintro r gl1 rfl
  simp [eC]
  refine pcut_at [(2, .loc 2 0), (3, .loc 3 0)] [(2, [.int .i64 x.1, .int .i64 x.2]), (3, [.int .i64 y.1, .int .i64 y.2])] gl1 gn (by simp) ?_
  simp
  refine (new_ok _).use ?_
  simp
  refine (cX (some gn) _).mono ?_
  rintro r gl2 ⟨b, o, rfl, rfl⟩
  simp
  refine (linkL (some gn) b o cX' 0 _).use ?_
  simp
  refine (linkR (some gn) b o cX' 0 _).use ?_
  simp
  refine (cS0 (some gn) _).use ?_
  simp
  refine (cS (some gn) b o _).use ?_
  simp
  refine (cRoot0 _).use ?_
  simp
  refine pcut_at [(3, .loc 3 0), (6, .mtr gn 0), (7, .pv .nilp), (8, .pv (.refAt b o cX' 0)), (9, .pv (.refAt b o cX' 0)), (10, .pv (.refAt b o cX' 0)), (11, .pv Y.pt), (12, .pv SS.pt), (14, .pv (.bool false))] [(3, [.int .i64 y.1, .int .i64 y.2])] (tick (some gn) 0 1 (tick (some gn) 1 0 (tick (some gn) 0 1 (tick (some gn) 0 1 (upd gl1 gn (0, 0)))))) (gn + 1) (by simp) ?_
  simp (config := { maxSteps := 10000000 })
  refine (cRank0 _).use ?_
  simp (config := { maxSteps := 10000000 })
  refine (cSize0 _).use ?_
  simp (config := { maxSteps := 10000000 })
  refine (cAll0 _).use ?_
  simp (config := { maxSteps := 10000000 })
  refine (cKids0 _).use ?_
  simp (config := { maxSteps := 10000000 })
  refine (cBes0 _).use ?_
  simp (config := { maxSteps := 10000000 }) [wr]
  refine (cRight0 _).use ?_
  simp (config := { maxSteps := 10000000 })
  refine (cShow0 _).use ?_
  simp (config := { maxSteps := 10000000 })
  refine (cLink0 (some gn) _).use ?_
  simp (config := { maxSteps := 10000000 }) [ptrSame]
  refine (cShowY _).use ?_
  simp (config := { maxSteps := 10000000 })
  refine (refText_ok _ _ hy.1 hy.2 _).use ?_
  simp (config := { maxSteps := 10000000 })
  refine ⟨by omega, by omega, ?_⟩
  refine (cSizeS _).use ?_
  simp (config := { maxSteps := 10000000 })
  refine (cRankS _).use ?_
  simp (config := { maxSteps := 10000000 })
  refine (mSteps_ok (some gn) _).use ?_
  simp (config := { maxSteps := 10000000 }) [steps, tick, wr]
end Go.Proofs.YtbekdlgkoleblaaDoor
