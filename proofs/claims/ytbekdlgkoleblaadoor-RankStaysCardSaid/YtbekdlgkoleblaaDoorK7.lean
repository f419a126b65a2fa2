/- The program's trees with ranks: linked, and a thing. -/
import Derived.Test.YtbekdlgkoleblaaDoorK6
namespace Go.Proofs.YtbekdlgkoleblaaDoor
set_option linter.unusedSimpArgs false
set_option linter.unusedVariables false

/-- What the meter counts where two are linked, and a thing. -/
def skewTick (m : Option Nat) : Option RT → Option RT → (Nat → Int × Int) → Nat → Int × Int
  | none, none, gl => tick m 0 1 gl
  | a, b, gl => tick m 0 1 (tick m 1 0 (linkTick m a b gl))

theorem oLink_none {a b : Option RT} (h : (oLink a b).1 = none) : a = none ∧ b = none := by
  cases a <;> cases b <;> simp [oLink] at h ⊢
theorem skewTick_some {m : Option Nat} {a b : Option RT} {gl : Nat → Int × Int} {t : RT} (h : (oLink a b).1 = some t) : skewTick m a b gl = tick m 0 1 (tick m 1 0 (linkTick m a b gl)) := by
  cases a <;> cases b <;> first | rfl | (simp [oLink] at h)

set_option maxHeartbeats 8000000 in
set_option maxRecDepth 4000 in
theorem rSkew_ok (m : Option Nat) (x : El) (a b : Option RT) (ha : ∀ u, a = some u → u.sz ≤ 100000 ∧ -1000000 ≤ u.rank ∧ u.rank ≤ 1000000) (hb : ∀ u, b = some u → u.sz ≤ 100000 ∧ -1000000 ≤ u.rank ∧ u.rank ≤ 1000000)
    (hz : ∀ u, (oLink a b).1 = some u → u.sz ≤ 200000) (gl : Nat → Int × Int) : PCalls Tryd.prog 10 [mv m, .pv (.agg [.int .i64 x.1, .int .i64 x.2]), .pv (oP a), .pv (oP b)] gl fun r gl' => r = .pv (oSkew x a b).1.pt ∧ gl' = skewTick m a b gl := by
  have L := rLink_ok m a b ha hb gl
  have hsk := @skewTick_some m a b gl
  have hsn : (oLink a b).1 = none → skewTick m a b gl = tick m 0 1 gl ∧ linkTick m a b gl = gl := fun h => by
    obtain ⟨rfl, rfl⟩ := oLink_none h; exact ⟨rfl, rfl⟩
  unfold oSkew
  generalize skewTick m a b gl = S at hsk hsn ⊢
  generalize linkTick m a b gl = G at L hsk hsn
  generalize oLink a b = M at L hz hsk hsn
  obtain ⟨o, n⟩ := M
  simp only at L hz hsk hsn ⊢
  refine pcalls_of_pwp noImm Tryd.func10 rfl (by simp) mixed (by kernel_rfl) fun gn => ?_
  simp
  refine L.use ?_
  cases o with
  | none =>
    obtain ⟨e1, e2⟩ := hsn rfl
    subst e2
    simp [oP, e1]
    refine (rLeaf_ok m x _).use ?_
    simp
  | some t =>
    have hz1 := sz_eq t
    have hz2 := hz t rfl
    have hk := szL_len t.kids
    have hpk := ptL_map t.kids
    simp [oP, pt_eq t]
    refine (key_ok _ _ _).use ?_
    simp
    refine (key_ok _ _ _).use ?_
    simp
    refine (mLess_ok m _ _ _ _ _).use ?_
    by_cases hl : ltI t.x.1 t.x.2 x.1 x.2 = true
    · simp [hl, hpk]
      refine (aheadE_ok x t.beside (by omega) _).use ?_
      simp [eC]
      have h2 := rMade_ok m t.rank t.x (x :: t.beside) t.kids (by simp only [RT.sz, List.length_cons]; omega) (tick m 1 0 G)
      rw [List.map_cons, eC] at h2
      refine h2.use ?_
      simp [RT.skew, hl, hsk rfl]
    · simp [hl, hpk]
      refine (aheadE_ok t.x t.beside (by omega) _).use ?_
      simp [eC]
      have h2 := rMade_ok m t.rank x (t.x :: t.beside) t.kids (by simp only [RT.sz, List.length_cons]; omega) (tick m 1 0 G)
      rw [List.map_cons, eC] at h2
      refine h2.use ?_
      simp [RT.skew, hl, hsk rfl]
end Go.Proofs.YtbekdlgkoleblaaDoor
