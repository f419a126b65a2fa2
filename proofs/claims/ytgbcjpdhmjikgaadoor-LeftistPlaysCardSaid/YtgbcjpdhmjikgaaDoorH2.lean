/- Melding, putting in, taking out. -/
import Derived.Test.YtgbcjpdhmjikgaaDoorH1
namespace Go.Proofs.YtgbcjpdhmjikgaaDoor

theorem tick_zero (m : Option Nat) (gl : Nat → Int × Int) : tick m 0 0 gl = gl := by
  cases m with
  | none => rfl
  | some k => funext t; simp [tick, upd_apply]; intro h; subst h; rfl

set_option maxHeartbeats 1000000 in
theorem meld_ok (m : Option Nat) : ∀ (n : Nat) (a b : LT) (gl : Nat → Int × Int), a.sz + b.sz ≤ n → n ≤ 1000000 → PCalls Tryd.prog 16 [.pv a.pv, mv m, .pv b.pv] gl fun r gl' => r = .pv (LT.meld a b).1.pv ∧ gl' = tick m (LT.meld a b).2 (LT.meld a b).2 gl
  | n, .nil, b, gl, _, _ => by
    refine pcalls_of_pwp noImm Tryd.func16 rfl (by simp) mixed (by kernel_rfl) fun gn => ?_
    simp [LT.pv, LT.pt, meld_nil, tick_zero]
  | n, .node p i l r, .nil, gl, _, _ => by
    refine pcalls_of_pwp noImm Tryd.func16 rfl (by simp) mixed (by kernel_rfl) fun gn => ?_
    simp [LT.pv, LT.pt, meld_nil', tick_zero]
  | 0, .node p i l r, .node q j l' r', _, h, _ => by simp [LT.sz] at h
  | n + 1, .node p i l r, .node q j l' r', gl, h, hn => by
    simp only [LT.sz] at h
    refine pcalls_of_pwp noImm Tryd.func16 rfl (by simp) mixed (by kernel_rfl) fun gn => ?_
    simp [LT.pv, LT.pt]
    refine (mLess_ok m q j p i _).use ?_
    by_cases hl : ltI q j p i = true
    · simp [hl]
      refine (meld_ok m n r' (.node p i l r) _ (by simp only [LT.sz]; omega) (by omega)).use ?_
      simp
      refine (made_ok m q j l' (LT.meld r' (.node p i l r)).1 (by rw [meld_sz n _ _ (by simp only [LT.sz]; omega)]; simp only [LT.sz]; omega) _).use ?_
      simp [tick_tick, meld_node, hl, LT.pv]
      rw [Int.add_comm]
    · simp [hl]
      refine (meld_ok m n r (.node q j l' r') _ (by simp only [LT.sz]; omega) (by omega)).use ?_
      simp
      refine (made_ok m p i l (LT.meld r (.node q j l' r')).1 (by rw [meld_sz n _ _ (by simp only [LT.sz]; omega)]; simp only [LT.sz]; omega) _).use ?_
      simp [tick_tick, meld_node, hl, LT.pv]
      rw [Int.add_comm]

/-- With an element more. -/
def LT.ins (t : LT) (p i : Int) : LT × Nat := LT.meld (.node p i .nil .nil) t

theorem insert_ok (m : Option Nat) (t : LT) (p i : Int) (h : t.sz < 1000000) (gl : Nat → Int × Int) : PCalls Tryd.prog 24 [.pv t.pv, mv m, .pv (eP p i)] gl fun r gl' => r = .pv (t.ins p i).1.pv ∧ gl' = tick m (t.ins p i).2 ((t.ins p i).2 + 1) gl := by
  refine pcalls_of_pwp noImm Tryd.func24 rfl (by simp) mixed (by kernel_rfl) fun gn => ?_
  simp [eP, LT.pv]
  refine (made_ok m p i .nil .nil (by simp [LT.sz]) _).use ?_
  simp [LT.mk]
  refine (meld_ok m 1000000 (.node p i .nil .nil) t _ (by simp only [LT.sz]; omega) (by omega)).use ?_
  simp [tick_tick, LT.ins, LT.pv]
  rw [Int.add_comm]

/-- Without the least. -/
def LT.pop : LT → LT × Nat
  | .nil => (.nil, 0)
  | .node _ _ l r => LT.meld l r
def LT.some? : LT → Bool
  | .nil => false
  | _ => true

theorem pop_ok (m : Option Nat) (t : LT) (h : t.sz ≤ 1000000) (gl : Nat → Int × Int) : PCalls Tryd.prog 26 [.pv t.pv, mv m] gl fun r gl' => r = .tup [.pv t.pop.1.pv, .pv (.bool t.some?)] ∧ gl' = tick m t.pop.2 t.pop.2 gl := by
  refine pcalls_of_pwp noImm Tryd.func26 rfl (by simp) mixed (by kernel_rfl) fun gn => ?_
  cases t with
  | nil => simp [LT.pv, LT.pt, LT.pop, LT.some?, tick_zero]
  | node p i l r =>
    simp only [LT.sz] at h
    simp [LT.pv, LT.pt]
    refine (meld_ok m 1000000 l r _ (by omega) (by omega)).use ?_
    simp [LT.pop, LT.some?, LT.pv]

end Go.Proofs.YtgbcjpdhmjikgaaDoor
