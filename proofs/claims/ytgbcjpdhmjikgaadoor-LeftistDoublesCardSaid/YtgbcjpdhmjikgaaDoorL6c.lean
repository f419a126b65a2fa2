/- LeftistDoubles. -/
import Derived.Test.YtgbcjpdhmjikgaaDoorD2
namespace Go.Proofs.YtgbcjpdhmjikgaaDoor
set_option linter.unusedSimpArgs false

set_option maxHeartbeats 8000000 in
set_option maxRecDepth 4000 in
theorem doubles_ok (a : List El) (n : Int) (_ : ∀ x ∈ a, inE x) (hn : 0 ≤ n ∧ n < 256) (gl : Nat → Int × Int) : PCalls Tryd.prog 8 [.pv (.list (a.map eC)), .pv (.int .u8 n)] gl fun r _ => r = .pv (.bool true) := by
  refine pcalls_of_pwp (cutImm [6] noImm) Tryd.func8 rfl (by simp) mixed (by kernel_rfl) fun gn => ?_
  simp
  refine (awake_ok _).mono fun r gl' h => ?_
  subst h
  by_cases ha' : (12 : Int) < a.length
  · simp [ha']
  · simp [ha']
    refine pcut_at [(0, .pv (.list (a.map eC))), (1, .pv (.int .u8 n))] [] gl' gn (by simp) ?_
    simp
    refine (ofN_ok a (by omega) _).use ?_
    simp
    refine (sort_ok a (by omega) _).use ?_
    simp
    refine pwp_loopS (α := Nat × LT × List El) (fun s => Is s.2.1 s.2.2 ∧ (s.1 = 0 ∧ s.2.2.length ≤ 12 ∨ s.1 = 1 ∧ s.2.2.length ≤ 24 ∨ s.1 = 2 ∧ s.2.2.length ≤ 48 ∨ s.1 = 3 ∧ s.2.2.length ≤ 96))
      (fun s => [(0, .pv (.list (a.map eC))), (1, .pv (.int .u8 n)), (6, .loc 6 0), (7, .pv (.list ((sortL s.2.2).map eC))), (8, .pv (.int .i64 s.1))]) (fun s => [(6, [s.2.1.pt])]) (fun _ => gl') (fun _ => gn) (fun s => 4 - s.1) (0, ofT a, a) ⟨Is.of a, .inl ⟨rfl, by simp only; omega⟩⟩ (by simp) ?_
    rintro ⟨k, t, l⟩ ⟨hi, hk⟩
    simp only at hi hk
    have hw : IntKind.i64.wrap n = n := wr _ (by omega) (by omega)
    have hm := u8_mod n 4 hn.1
    have hs := hi.sz
    have hll := sortL_len l
    by_cases hlt : (k : Int) < n % 4
    · simp [hw, hm, hlt]
      refine (meldN_ok t t (by omega) _).use ?_
      simp
      refine (sum_ok (sortL l) (sortL l) (by omega) (by omega) _).use ?_
      simp
      refine ⟨k + 1, (LT.meld t t).1, l ++ l, ⟨hi.meld hi, by simp; omega⟩, by omega, ?_⟩
      rw [sumL_sort]
      simp
      exact wr _ (by omega) (by omega)
    · simp [hw, hm, hlt]
      refine (sizeN_ok _ _).use ?_
      simp [hs, hll]
      refine (drI_ok hi l (.refl _) 200 (by omega) (by omega) (by omega) _).use ?_
      simp
      refine (sameN_ok _ _ rfl (by omega) _).use ?_
      simp
end Go.Proofs.YtgbcjpdhmjikgaaDoor
