/- The program's trees with ranks: a leaf, linked. -/
import Derived.Test.YtbekdlgkoleblaaDoorK5
namespace Go.Proofs.YtbekdlgkoleblaaDoor
set_option linter.unusedSimpArgs false
set_option linter.unusedVariables false

theorem key_ok (p i : Int) (gl : Nat → Int × Int) : PCalls Tryd.prog 90 [.pv (.agg [.int .i64 p, .int .i64 i])] gl fun r gl' => r = .pv (.agg [.int .i64 p, .int .i64 i]) ∧ gl' = gl := by
  refine pcalls_of_pwp noImm Tryd.func90 rfl (by simp) mixed (by kernel_rfl) fun gn => ?_
  simp

theorem rLeaf_ok (m : Option Nat) (x : El) (gl : Nat → Int × Int) : PCalls Tryd.prog 9 [mv m, .pv (.agg [.int .i64 x.1, .int .i64 x.2])] gl fun r gl' => r = .pv (RT.leaf x).pt ∧ gl' = tick m 0 1 gl := by
  refine pcalls_of_pwp noImm Tryd.func9 rfl (by simp) mixed (by kernel_rfl) fun gn => ?_
  simp
  refine (rMade_ok m 0 x [] [] (by simp [RT.sz, RT.szL]) gl).use ?_
  simp [RT.leaf, RT.pt, RT.ptL]

/-- What the meter counts where two are linked. -/
def linkTick (m : Option Nat) : Option RT → Option RT → (Nat → Int × Int) → Nat → Int × Int
  | some _, some _, gl => tick m 0 1 (tick m 1 0 gl)
  | _, _, gl => gl

set_option maxHeartbeats 4000000 in
set_option maxRecDepth 4000 in
theorem rLink_ok (m : Option Nat) (a b : Option RT) (ha : ∀ u, a = some u → u.sz ≤ 100000 ∧ -1000000 ≤ u.rank ∧ u.rank ≤ 1000000) (hb : ∀ u, b = some u → u.sz ≤ 100000 ∧ -1000000 ≤ u.rank ∧ u.rank ≤ 1000000) (gl : Nat → Int × Int) : PCalls Tryd.prog 11 [mv m, .pv (oP a), .pv (oP b)] gl fun r gl' => r = .pv (oP (oLink a b).1) ∧ gl' = linkTick m a b gl := by
  refine pcalls_of_pwp noImm Tryd.func11 rfl (by simp) mixed (by kernel_rfl) fun gn => ?_
  cases a with
  | none =>
    cases b with
    | none => simp [oP, oLink, linkTick]
    | some b => simp [oP, oLink, linkTick, pt_eq b]
  | some a =>
    cases b with
    | none => simp [oP, oLink, linkTick, pt_eq a]
    | some b =>
      have ra := ha a rfl
      have rb := hb b rfl
      have hza := sz_eq a
      have hzb := sz_eq b
      have hka := szL_len a.kids
      have hkb := szL_len b.kids
      have hpa := ptL_map a.kids
      have hpb := ptL_map b.kids
      simp [oP, oLink, linkTick, pt_eq a, pt_eq b]
      refine (key_ok _ _ _).use ?_
      simp
      refine (key_ok _ _ _).use ?_
      simp
      refine (mLess_ok m _ _ _ _ _).use ?_
      have wa := wr (a.rank + 1) (by omega) (by omega)
      have wb := wr (b.rank + 1) (by omega) (by omega)
      by_cases hl : ltI b.x.1 b.x.2 a.x.1 a.x.2 = true
      · simp [hl, hpb, wb]
        have h1 := aheadT_ok a b.kids (by omega) (tick m 1 0 gl)
        rw [pt_eq a] at h1
        refine h1.use ?_
        simp
        have h2 := rMade_ok m (b.rank + 1) b.x b.beside (a :: b.kids) (by simp only [RT.sz, RT.szL]; omega) (tick m 1 0 gl)
        rw [List.map_cons] at h2
        refine h2.use ?_
        simp [RT.link, hl]
      · simp [hl, hpa, wa]
        have h1 := aheadT_ok b a.kids (by omega) (tick m 1 0 gl)
        rw [pt_eq b] at h1
        refine h1.use ?_
        simp
        have h2 := rMade_ok m (a.rank + 1) a.x a.beside (b :: a.kids) (by simp only [RT.sz, RT.szL]; omega) (tick m 1 0 gl)
        rw [List.map_cons] at h2
        refine h2.use ?_
        simp [RT.link, hl]
end Go.Proofs.YtbekdlgkoleblaaDoor
