/- MeterPlays. -/
import Derived.Test.YthdjidomjgoaoaaL2
namespace Go.Proofs.Ythdjidomjgoaoaa
set_option linter.unusedSimpArgs false
set_option linter.unusedVariables false

/-- What is counted, as cells. -/
structure ActR where
  p : Int
  i : Int
  q : Int
  j : Int
  n : Int
def ActR.cells (a : ActR) : List PV := [.int .i64 a.p, .int .i64 a.i, .int .i64 a.q, .int .i64 a.j, .int .i64 a.n]

set_option maxHeartbeats 4000000 in
set_option maxRecDepth 4000 in
theorem meterPlays_ok (xs : List ActR) (s : Int) (hs : -9223372036854775808 ≤ s ∧ s ≤ 9223372036854775807) (gl : Nat → Int × Int) : PCalls Try.prog 3 [.pv (.list (xs.map ActR.cells)), .pv (.int .i64 s)] gl fun r _ => r = .pv (.bool true) := by
  refine pcalls_of_pwp noImm Try.func3 rfl (by simp) mixed (by kernel_rfl) fun gn => ?_
  simp
  refine (awake_ok _).mono fun r gl' h => ?_
  subst h
  by_cases hlen : 60 < (xs.length : Int)
  · simp [hlen]
  · by_cases h1 : 1000000 < s
    · simp [hlen, h1]
    · by_cases h2 : s < -1000000
      · simp [hlen, h1, h2]
      · simp [hlen, h1, h2]
        refine (new_ok _).use ?_
        simp
        refine pwp_loopS (α := Nat × Int × Int) (fun x => x.1 ≤ xs.length ∧ 0 ≤ x.2.1 ∧ x.2.1 ≤ x.1 ∧ 0 ≤ x.2.2 ∧ x.2.2 ≤ 100000 * x.1)
          (fun x => [(0, .pv (.list (xs.map ActR.cells))), (1, .pv (.int .i64 s)), (4, .pv (.bool false)), (6, .mtr gn 0), (7, .loc 7 0), (8, .pv (.int .i64 x.1))])
          (fun x => [(7, [.int .i64 x.2.1, .int .i64 x.2.2])]) (fun x => upd gl' gn (x.2.1, x.2.2)) (fun _ => gn + 1) (fun x => xs.length - x.1) (0, 0, 0) (by simp) (by simp) ?_
        rintro ⟨i, c, m⟩ ⟨hi, hc0, hc, hm0, hm⟩
        simp only at hi hc0 hc hm0 hm
        by_cases hlt : i < xs.length
        · have hw : Wide 5 (xs.map ActR.cells) := by
            intro x hx
            obtain ⟨a, _, rfl⟩ := List.mem_map.1 hx
            rfl
          rcases hx : xs[i] with ⟨p, q, r, j, n⟩
          simp [hlt, hw, hx, ActR.cells]
          intro hbig
          have hc1 := wr (c + 1) (by omega) (by omega)
          have hc2 := wr c (by omega) (by omega)
          have hm1 := wr m (by omega) (by omega)
          have hi1 := wr ((i : Int) + 1) (by omega) (by omega)
          by_cases h0 : n = 0
          · simp [hlt, hw, hx, ActR.cells, h0]
            refine (mLess_ok (some gn) p q r j _).use ?_
            simp [hlt, hw, hx, ActR.cells]
            refine (refLess_ok p q r j _).use ?_
            simp [hlt, hw, hx, ActR.cells, tick, hc1]
            refine (mSplit_ok (some gn) _).use ?_
            simp [hc1, hm1]
            refine (mSteps_ok (some gn) _).use ?_
            simp [steps]
            refine (refSteps_ok _ _ _).use ?_
            simp [hlt, hw, hx, ActR.cells]
            refine (mSince_ok (some gn) _ _).use ?_
            simp [hlt, hw, hx, ActR.cells]
            refine (refSteps_ok _ _ _).use ?_
            simp [Int.sub_eq_add_neg, wr_wr_add]
            refine ⟨i + 1, c + 1, m, ⟨by omega, by omega, by omega, by omega, by omega⟩, by omega, ?_⟩
            rw [hi1]; exact ⟨rfl, ⟨rfl, rfl⟩, rfl⟩
          · simp [hlt, hw, hx, ActR.cells, h0]
            refine (mMade_ok (some gn) n _).use ?_
            simp [hlt, hw, hx, ActR.cells, tick]
            have hm2 := wr (m + max n 0) (by omega) (by omega)
            have hmx : (if n < 0 then 0 else n) = max n 0 := by split <;> omega
            refine (mSplit_ok (some gn) _).use ?_
            simp [hc2, hm2, hmx]
            refine (mSteps_ok (some gn) _).use ?_
            simp [steps]
            refine (refSteps_ok _ _ _).use ?_
            simp [hlt, hw, hx, ActR.cells, hmx, hm2]
            refine (mSince_ok (some gn) _ _).use ?_
            simp [hlt, hw, hx, ActR.cells, hmx, hm2]
            refine (refSteps_ok _ _ _).use ?_
            simp [Int.sub_eq_add_neg, wr_wr_add]
            refine ⟨i + 1, c, m + max n 0, ⟨by omega, by omega, by omega, by omega, by omega⟩, by omega, ?_⟩
            rw [hi1]; exact ⟨rfl, ⟨rfl, rfl⟩, rfl⟩
        · simp [hlt]
end Go.Proofs.Ythdjidomjgoaoaa
