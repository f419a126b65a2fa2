/- LeftistEnds. -/
import Derived.Test.YtgbcjpdhmjikgaaDoorD2
namespace Go.Proofs.YtgbcjpdhmjikgaaDoor
set_option linter.unusedSimpArgs false

theorem one_ins (p i : Int) : (LT.nil.ins p i).1 = .node p i .nil .nil := by simp [LT.ins, meld_nil']

set_option maxHeartbeats 8000000 in
set_option maxRecDepth 4000 in
theorem ends_ok (a b c : Int) (wa : inI a) (wb : inI b) (wc : inI c) (gl : Nat → Int × Int) : PCalls Tryd.prog 9 [.pv (.int .i64 a), .pv (.int .i64 b), .pv (.int .i64 c)] gl fun r _ => r = .pv (.bool true) := by
  have w0 : inI (-9223372036854775808) := ⟨by omega, by omega⟩
  have w1 : inI 9223372036854775807 := ⟨by omega, by omega⟩
  let hl : List El := [(9223372036854775807, c), (a, 9223372036854775807), (a, -9223372036854775808), (-9223372036854775808, c), (b, c)]
  let wl : List El := [(-9223372036854775808, c), (9223372036854775807, c), (a, -9223372036854775808), (a, 9223372036854775807), (b, c)]
  have hp : hl.Perm wl := by
    show List.Perm (_ :: _ :: _ :: _ :: _ :: []) _
    refine List.Perm.trans (List.Perm.cons _ (List.Perm.cons _ (List.Perm.swap _ _ _))) ?_
    refine List.Perm.trans (List.Perm.cons _ (List.Perm.swap _ _ _)) ?_
    refine List.Perm.trans (List.Perm.swap _ _ _) ?_
    exact List.Perm.cons _ (List.Perm.cons _ (List.Perm.swap _ _ _))
  have xh := Is.of hl
  have lw : (sortL wl).length = 5 := sortL_len wl
  let one : LT := .node a (-9223372036854775808) .nil .nil
  have e1 : (LT.nil.ins a (-9223372036854775808)).1 = one := one_ins _ _
  have ok1 : one.ok := ⟨wa, w0, trivial, trivial⟩
  have hm1 : (LT.meld .nil one).1 = one := by rw [meld_nil]
  have hm2 : (LT.meld one .nil).1 = one := by rw [meld_nil']
  have hm3 : (LT.meld .nil .nil).1 = .nil := by rw [meld_nil']
  have hp1 : one.pop.1 = .nil := hm3
  have C1 : ∀ gl, PCalls Tryd.prog 15 [.pv .nilp, .pv (.list [[.int .i64 9223372036854775807, .int .i64 c], [.int .i64 a, .int .i64 9223372036854775807], [.int .i64 a, .int .i64 (-9223372036854775808)], [.int .i64 (-9223372036854775808), .int .i64 c], [.int .i64 b, .int .i64 c]])] gl fun r gl' => r = .pv (.agg [(ofT hl).pt]) ∧ gl' = gl := fun gl => ofN_ok hl (by show 5 ≤ 100000; omega) gl
  have C2 : ∀ gl, PCalls Tryd.prog 17 [.pv (.list [[.int .i64 (-9223372036854775808), .int .i64 c], [.int .i64 9223372036854775807, .int .i64 c], [.int .i64 a, .int .i64 (-9223372036854775808)], [.int .i64 a, .int .i64 9223372036854775807], [.int .i64 b, .int .i64 c]])] gl fun r gl' => r = .pv (.list ((sortL wl).map eC)) ∧ gl' = gl := fun gl => sort_ok wl (by show 5 ≤ 100000; omega) gl
  have C3 : ∀ gl, PCalls Tryd.prog 28 [.pv (.agg [.nilp]), .pv .nilp] gl fun r gl' => r = .tup [.pv (.agg [.int .i64 0, .int .i64 0]), .pv (.bool false)] ∧ gl' = gl := fun gl => minN_ok .nil gl
  have C4 : ∀ gl, PCalls Tryd.prog 26 [.pv (.agg [.nilp]), .pv .nilp] gl fun r gl' => r = .tup [.pv (.agg [.nilp]), .pv (.bool false)] ∧ gl' = gl := fun gl => popN_ok .nil (by decide) gl
  have C5 : ∀ gl, PCalls Tryd.prog 24 [.pv (.agg [.nilp]), .pv .nilp, .pv (.agg [.int .i64 a, .int .i64 (-9223372036854775808)])] gl fun r gl' => r = .pv (.agg [one.pt]) ∧ gl' = gl := fun gl => by
    have := insN_ok .nil a (-9223372036854775808) (by decide) gl
    rw [e1] at this; exact this
  have C6 : ∀ gl, PCalls Tryd.prog 28 [.pv (.agg [one.pt]), .pv .nilp] gl fun r gl' => r = .tup [.pv (.agg [.int .i64 a, .int .i64 (-9223372036854775808)]), .pv (.bool true)] ∧ gl' = gl := fun gl => minN_ok one gl
  have C7 : ∀ gl, PCalls Tryd.prog 26 [.pv (.agg [one.pt]), .pv .nilp] gl fun r gl' => r = .tup [.pv (.agg [.nilp]), .pv (.bool true)] ∧ gl' = gl := fun gl => by
    have := popN_ok one (by show 1 + 0 + 0 ≤ 1000000; omega) gl
    rw [hp1] at this; exact this
  have C8 : ∀ gl, PCalls Tryd.prog 21 [.pv (.agg [.nilp])] gl fun r gl' => r = .pv (.int .i64 0) ∧ gl' = gl := fun gl => sizeN_ok .nil gl
  have C9 : ∀ gl, PCalls Tryd.prog 16 [.pv (.agg [.nilp]), .pv .nilp, .pv (.agg [.nilp])] gl fun r gl' => r = .pv (.agg [.nilp]) ∧ gl' = gl := fun gl => by
    have := meldN_ok .nil .nil (by decide) gl
    rw [hm3] at this; exact this
  have C10 : ∀ gl, PCalls Tryd.prog 16 [.pv (.agg [.nilp]), .pv .nilp, .pv (.agg [one.pt])] gl fun r gl' => r = .pv (.agg [one.pt]) ∧ gl' = gl := fun gl => by
    have := meldN_ok .nil one (by show 0 + (1 + 0 + 0) ≤ 1000000; omega) gl
    rw [hm1] at this; exact this
  have C11 : ∀ gl, PCalls Tryd.prog 16 [.pv (.agg [one.pt]), .pv .nilp, .pv (.agg [.nilp])] gl fun r gl' => r = .pv (.agg [one.pt]) ∧ gl' = gl := fun gl => by
    have := meldN_ok one .nil (by show 1 + 0 + 0 + 0 ≤ 1000000; omega) gl
    rw [hm2] at this; exact this
  have C12 : ∀ gl, PCalls Tryd.prog 27 [.pv (.agg [one.pt])] gl fun r gl' => r = .pv (.str one.text) ∧ gl' = gl := fun gl => showN_ok one gl ok1 (by show 1 + 0 + 0 ≤ 1000000; omega)
  have C13 : ∀ gl, PCalls Tryd.prog 27 [.pv (.agg [.nilp])] gl fun r gl' => r = .pv (.str LT.nil.text) ∧ gl' = gl := fun gl => showN_ok .nil gl trivial (by decide)
  have C14 : ∀ gl, PCalls Tryd.prog 18 [.pv (.agg [(ofT hl).pt]), .pv (.int .i64 9)] gl fun r gl' => r = .fresh ((sortL wl).map eC) ∧ gl' = gl := fun gl => drI_ok xh wl hp 9 (by omega) (by omega) (by show ((5 : Nat) : Int) ≤ 9; omega) gl
  clear_value one wl hl
  refine pcalls_of_pwp (cutImm [6, 11, 16] noImm) Tryd.func9 rfl (by simp) mixed (by kernel_rfl) fun gn => ?_
  simp (config := { maxSteps := 10000000 })
  refine (awake_ok _).mono fun r gl' h => ?_
  subst h
  simp
  refine pcut_at [(0, .pv (.int .i64 a)), (1, .pv (.int .i64 b)), (2, .pv (.int .i64 c)), (8, .loc 8 0), (9, .loc 9 0)] [(8, [.int .i64 (-9223372036854775808), .int .i64 c]), (9, [.int .i64 9223372036854775807, .int .i64 c])] gl' gn (by simp) ?_
  simp
  refine (C1 _).use ?_
  simp
  refine (C2 _).use ?_
  simp
  refine pcut_at [(10, .loc 10 0), (12, .loc 12 0), (13, .pv (.list ((sortL wl).map eC))), (14, .loc 14 0)] [(10, [.int .i64 a, .int .i64 (-9223372036854775808)]), (12, [(ofT hl).pt]), (14, [.nilp])] gl' gn (by simp) ?_
  simp
  refine (C3 _).use ?_
  simp
  refine (C4 _).use ?_
  simp
  refine (C5 _).use ?_
  simp
  refine (C6 _).use ?_
  simp
  refine (C7 _).use ?_
  simp
  refine pcut_at [(10, .loc 10 0), (12, .loc 12 0), (13, .pv (.list ((sortL wl).map eC))), (14, .loc 14 0), (16, .pv (.bool false)), (17, .loc 17 0), (18, .pv (.bool false)), (19, .loc 19 0), (20, .loc 20 0), (21, .pv (.bool true)), (22, .loc 22 0), (23, .pv (.bool true))]
    [(10, [.int .i64 a, .int .i64 (-9223372036854775808)]), (12, [(ofT hl).pt]), (14, [.nilp]), (17, [.nilp]), (19, [one.pt]), (20, [.int .i64 a, .int .i64 (-9223372036854775808)]), (22, [.nilp])] gl' gn (by simp) ?_
  simp
  refine (C14 _).use ?_
  simp
  refine (sameN_ok _ _ rfl (by omega) _).use ?_
  simp
  refine (C8 _).use ?_
  simp
  refine (C8 _).use ?_
  simp
  refine (C9 _).use ?_
  simp
  refine (C8 _).use ?_
  simp [pairEq]
  refine (C8 _).use ?_
  simp
  refine (C10 _).use ?_
  simp
  refine (C12 _).use ?_
  simp
  refine (C12 _).use ?_
  simp
  refine (C11 _).use ?_
  simp
  refine (C12 _).use ?_
  simp
  refine (C12 _).use ?_
  simp
  refine (C13 _).use ?_
  simp
  refine (C13 _).use ?_
  simp
end Go.Proofs.YtgbcjpdhmjikgaaDoor
