/- The document's order: rows of elements. -/
import Derived.Test.YtgbcjpdhmjikgaaDoorO2
set_option linter.unusedSimpArgs false
namespace Go.Proofs.YtgbcjpdhmjikgaaDoor

theorem refLess_ok (p i q j : Int) (gl : Nat → Int × Int) : PCalls Tryd.prog 29 [.pv (eP p i), .pv (eP q j)] gl fun r gl' => r = .pv (.bool (ltI p i q j)) ∧ gl' = gl := by
  refine pcalls_of_pwp noImm Tryd.func29 rfl (by simp) mixed (by kernel_rfl) fun gn => ?_
  by_cases h : p < q
  · simp [eP, ltI, h]
  · by_cases h' : p = q
    · subst h'; simp [eP, ltI]
    · simp [eP, ltI, h, h', beq_false_of_ne h']

theorem wide2 (l : List (Int × Int)) : Wide 2 (l.map eC) := by
  intro x hx
  obtain ⟨a, _, rfl⟩ := List.mem_map.1 hx
  rfl

/-- Where an element belongs. -/
def putAt : List (Int × Int) → Int × Int → Nat
  | [], _ => 0
  | y :: l, x => if ltI y.1 y.2 x.1 x.2 then putAt l x + 1 else 0
def putL : List (Int × Int) → Int × Int → List (Int × Int)
  | [], x => [x]
  | y :: l, x => if ltI y.1 y.2 x.1 x.2 then y :: putL l x else x :: y :: l

theorem putAt_le : ∀ (l : List (Int × Int)) (x : Int × Int), putAt l x ≤ l.length
  | [], _ => Nat.le_refl _
  | y :: l, x => by
    have := putAt_le l x
    simp only [putAt]; split <;> simp; omega
theorem putL_eq : ∀ (l : List (Int × Int)) (x : Int × Int), putL l x = l.take (putAt l x) ++ x :: l.drop (putAt l x)
  | [], _ => rfl
  | y :: l, x => by
    simp only [putAt, putL]; split
    · simp [putL_eq l x]
    · simp
theorem putAt_less : ∀ (l : List (Int × Int)) (x : Int × Int) (k : Nat) (h : k < l.length), k < putAt l x → ltI l[k].1 l[k].2 x.1 x.2 = true
  | y :: l, x, 0, _, h => by
    simp only [putAt] at h
    split at h
    · assumption
    · omega
  | y :: l, x, k + 1, hk, h => by
    simp only [putAt] at h
    split at h
    · exact putAt_less l x k (by simpa using hk) (by omega)
    · omega
theorem putAt_stop : ∀ (l : List (Int × Int)) (x : Int × Int) (h : putAt l x < l.length), ltI l[putAt l x].1 l[putAt l x].2 x.1 x.2 = false
  | y :: l, x, h => by
    by_cases hy : ltI y.1 y.2 x.1 x.2 = true
    · simp only [putAt, hy, if_true] at h ⊢
      exact putAt_stop l x (by simpa using h)
    · simp only [putAt, hy, if_false] at h ⊢
      simpa using hy
theorem putL_len (l : List (Int × Int)) (x : Int × Int) : (putL l x).length = l.length + 1 := by
  rw [putL_eq]; have := putAt_le l x; simp; omega

end Go.Proofs.YtgbcjpdhmjikgaaDoor
