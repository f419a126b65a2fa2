/- RankOrder: the contract. -/
import Derived.Test.YtbekdlgkoleblaaDoorZ2
namespace Go.Proofs.YtbekdlgkoleblaaDoor
set_option linter.unusedSimpArgs false
set_option linter.unusedVariables false

def inE (x : El) : Prop := inI x.1 ∧ inI x.2
theorem ltI_asymm {p i q j : Int} (h : ltI p i q j = true) : ltI q j p i = false := by
  rw [lt_iff] at h
  rw [Bool.eq_false_iff]
  intro h2
  rw [lt_iff] at h2
  omega
theorem ltI_chain {z m o : El} (h1 : ltI m.1 m.2 z.1 z.2 = false) (h2 : ltI o.1 o.2 m.1 m.2 = false) : ltI o.1 o.2 z.1 z.2 = false := by
  rw [Bool.eq_false_iff] at *
  intro h
  rw [lt_iff] at h
  rw [Ne, lt_iff] at h1 h2
  omega

set_option maxRecDepth 4000 in
set_option maxHeartbeats 16000000 in
theorem order_core (x y z m o : El) (hx : inE x) (hy : inE y) (hz : inE z) (hm : (ltI y.1 y.2 x.1 x.2 = true ∧ m = y ∧ o = x) ∨ (ltI y.1 y.2 x.1 x.2 = false ∧ m = x ∧ o = y)) (b : Bool) (hb : ltI m.1 m.2 z.1 z.2 = b) (gl : Nat → Int × Int) :
    PCalls Tryd.prog 4 [.pv (.agg (eC x)), .pv (.agg (eC y)), .pv (.agg (eC z))] gl fun r _ => r = .pv (.bool true) := by
  have hom : ltI o.1 o.2 m.1 m.2 = false := by
    rcases hm with ⟨h, rfl, rfl⟩ | ⟨h, rfl, rfl⟩
    · exact ltI_asymm h
    · exact h
  have hT : oLink (some (RT.leaf x)) (some (RT.leaf y)) = (some (.node 1 m [] [RT.leaf o]), 2) := by
    rcases hm with ⟨h, rfl, rfl⟩ | ⟨h, rfl, rfl⟩ <;> simp [oLink, RT.link, RT.leaf, RT.x, RT.rank, RT.beside, RT.kids, h]
  have hS : oSkew z (some (RT.leaf x)) (some (RT.leaf y)) = (.node 1 (if b then m else z) [if b then z else m] [RT.leaf o], 4) := by
    simp only [oSkew, hT, RT.skew, RT.x, hb, RT.rank, RT.beside, RT.kids]
    cases b <;> rfl
  have hTr : (RT.node 1 m [] [RT.leaf o]).right = true := by simp [RT.leaf, RT.right, RT.rightL, RT.rank, RT.x, hom]
  have hSr : (RT.node 1 (if b then m else z) [if b then z else m] [RT.leaf o]).right = true := by
    cases b with
    | true => simp [RT.leaf, RT.right, RT.rightL, RT.rank, RT.x, hom, ltI_asymm hb]
    | false => simp [RT.leaf, RT.right, RT.rightL, RT.rank, RT.x, ltI_chain hb hom, hb]
  have hL : ∀ v u, some (RT.leaf v) = some u → u.sz ≤ 100000 ∧ -1000000 ≤ u.rank ∧ u.rank ≤ 1000000 := by rintro v u ⟨rfl⟩; simp [RT.leaf, RT.rank, RT.sz, RT.szL]
  have hTz : (RT.node 1 m [] [RT.leaf o]).sz = 2 := by simp [RT.leaf, RT.sz, RT.szL]
  have hSz : (RT.node 1 (if b then m else z) [if b then z else m] [RT.leaf o]).sz = 3 := by simp [RT.leaf, RT.sz, RT.szL]
  have cL : ∀ gl, PCalls Tryd.prog 11 [.pv .nilp, .pv (RT.leaf x).pt, .pv (RT.leaf y).pt] gl fun r gl' => r = .pv (RT.node 1 m [] [RT.leaf o]).pt ∧ gl' = gl := fun gl => by
    have := rLink_ok none (some (RT.leaf x)) (some (RT.leaf y)) (hL x) (hL y) gl
    rw [hT] at this
    exact this
  have cS : ∀ gl, PCalls Tryd.prog 10 [.pv .nilp, .pv (.agg [.int .i64 z.1, .int .i64 z.2]), .pv (RT.leaf x).pt, .pv (RT.leaf y).pt] gl fun r gl' => r = .pv (RT.node 1 (if b then m else z) [if b then z else m] [RT.leaf o]).pt ∧ gl' = gl := fun gl => by
    have := rSkew_ok none z (some (RT.leaf x)) (some (RT.leaf y)) (hL x) (hL y) (by rw [hT]; rintro u ⟨rfl⟩; rw [hTz]; omega) gl
    rw [hS] at this
    exact this
  have cF : ∀ (v : El) gl, PCalls Tryd.prog 9 [.pv .nilp, .pv (.agg [.int .i64 v.1, .int .i64 v.2])] gl fun r gl' => r = .pv (RT.leaf v).pt ∧ gl' = gl := fun v gl => rLeaf_ok none v gl
  generalize hTT : RT.node 1 m [] [RT.leaf o] = TT at cL hTr hTz
  generalize hSS : RT.node 1 (if b then m else z) [if b then z else m] [RT.leaf o] = SS at cS hSr hSz
  have hTx : TT.x = m := by rw [← hTT]; rfl
  have hSx : SS.x = if b then m else z := by rw [← hSS]; rfl
  have hSb : SS.beside = [if b then z else m] := by rw [← hSS]; rfl
  have cRT : ∀ gl, PCalls Tryd.prog 12 [.pv TT.pt] gl fun r gl' => r = .tup [.pv (.agg [.int .i64 m.1, .int .i64 m.2]), .pv (.bool true)] ∧ gl' = gl := fun gl => by
    have := rRoot_ok (some TT) gl
    simp only [hTx] at this
    exact this
  have cRS : ∀ gl, PCalls Tryd.prog 12 [.pv SS.pt] gl fun r gl' => r = .tup [.pv (.agg [.int .i64 (if b then m else z).1, .int .i64 (if b then m else z).2]), .pv (.bool true)] ∧ gl' = gl := fun gl => by
    have := rRoot_ok (some SS) gl
    simp only [hSx] at this
    exact this
  have cB : ∀ gl, PCalls Tryd.prog 20 [.pv SS.pt] gl fun r gl' => r = .fresh [[.int .i64 (if b then z else m).1, .int .i64 (if b then z else m).2]] ∧ gl' = gl := fun gl => by
    have := rBeside_ok (some SS) (by rintro u ⟨rfl⟩; omega) gl
    simp only [oBeside, hSb] at this
    exact this
  have cTr : ∀ gl, PCalls Tryd.prog 15 [.pv TT.pt] gl fun r gl' => r = .pv (.bool true) ∧ gl' = gl := fun gl => by
    have := rRight_ok (some TT) (by rintro u ⟨rfl⟩; omega) gl
    simp only [oRight, hTr] at this
    exact this
  have cSr : ∀ gl, PCalls Tryd.prog 15 [.pv SS.pt] gl fun r gl' => r = .pv (.bool true) ∧ gl' = gl := fun gl => by
    have := rRight_ok (some SS) (by rintro u ⟨rfl⟩; omega) gl
    simp only [oRight, hSr] at this
    exact this
  have hmy : ltI y.1 y.2 x.1 x.2 = true → m = y := fun h => by
    rcases hm with ⟨_, e, _⟩ | ⟨h', _⟩
    · exact e
    · rw [h] at h'; cases h'
  have hmx : ¬ ltI y.1 y.2 x.1 x.2 = true → m = x := fun h => by
    rcases hm with ⟨h', _⟩ | ⟨_, e, _⟩
    · exact absurd h' h
    · exact e
  clear hm
  have w1 : ∀ v : El, Wide 2 [[PV.int IntKind.i64 v.1, PV.int IntKind.i64 v.2]] := fun v y hy => by rw [List.mem_singleton.1 hy]; rfl
  clear hT hS hL hTz hSz hTr hSr
  refine pcalls_of_pwp noImm Tryd.func4 rfl (by simp) mixed (by kernel_rfl) fun gn => ?_
  simp
  refine (awake_ok gl).mono ?_
  rintro r gl1 rfl
  simp [eC]
  refine (cF x _).use ?_
  simp
  refine (cF y _).use ?_
  simp
  refine (cL _).use ?_
  simp
  refine (cF x _).use ?_
  simp
  refine (cF y _).use ?_
  simp
  refine (cS _).use ?_
  simp
  refine (rLess_ok _ _ _ _ _).use ?_
  by_cases hl : ltI y.1 y.2 x.1 x.2 = true
  · have e := hmy hl
    simp [hl]
    refine (cRT _).use ?_
    simp
    refine (cRS _).use ?_
    simp
    have hb' := hb
    rw [e] at hb'
    refine (rLess_ok _ _ _ _ _).use ?_
    simp [hb']
    refine (cB _).use ?_
    simp [e, pairEq]
    refine (cTr _).use ?_
    simp
    refine (cSr _).use ?_
    by_cases hbb : b = true
    · simp [hbb, e, pairEq, w1]
    · simp [hbb, e, pairEq, w1]
  · have e := hmx hl
    simp [hl]
    refine (cRT _).use ?_
    simp
    refine (cRS _).use ?_
    simp
    have hb' := hb
    rw [e] at hb'
    refine (rLess_ok _ _ _ _ _).use ?_
    simp [hb']
    refine (cB _).use ?_
    simp [e, pairEq]
    refine (cTr _).use ?_
    simp
    refine (cSr _).use ?_
    by_cases hbb : b = true
    · simp [hbb, e, pairEq, w1]
    · simp [hbb, e, pairEq, w1]

theorem order_ok (x y z : El) (hx : inE x) (hy : inE y) (hz : inE z) (gl : Nat → Int × Int) :
    PCalls Tryd.prog 4 [.pv (.agg (eC x)), .pv (.agg (eC y)), .pv (.agg (eC z))] gl fun r _ => r = .pv (.bool true) := by
  by_cases h : ltI y.1 y.2 x.1 x.2 = true
  · exact order_core x y z y x hx hy hz (.inl ⟨h, rfl, rfl⟩) _ rfl gl
  · exact order_core x y z x y hx hy hz (.inr ⟨by simpa using h, rfl, rfl⟩) _ rfl gl
end Go.Proofs.YtbekdlgkoleblaaDoor
