/- Is a tree well formed? -/
import Derived.Test.YtbekdlgkoleblaaDoorK7
namespace Go.Proofs.YtbekdlgkoleblaaDoor
set_option linter.unusedSimpArgs false
set_option linter.unusedVariables false

/-- A box of a pointer is never written again. -/
@[simp] def ptrImm (t : TypeId) : Bool := t == 26

theorem lower_ok (t : RT) (p i : Int) (gl : Nat → Int × Int) : PCalls Tryd.prog 38 [.pv (.agg [.int .i64 p, .int .i64 i]), .pv (.ref [t.pt] 0)] gl fun r gl' => r = .pv (.bool (ltI p i t.x.1 t.x.2)) ∧ gl' = gl := by
  refine pcalls_of_pwp noImm Tryd.func38 rfl (by simp) mixed (by kernel_rfl) fun gn => ?_
  simp [pt_eq t]
  refine (key_ok _ _ _).use ?_
  simp
  refine (key_ok _ _ _).use ?_
  simp
  have h := elemLess_ok p i t.x.1 t.x.2 gl
  rw [eP, eP] at h
  refine h.use ?_
  simp

/-- Where the first one is that is less: -1: nowhere. -/
def lowAt (x : El) : Nat → List El → Int
  | _, [] => -1
  | k, y :: l => if ltI y.1 y.2 x.1 x.2 = true then (k : Int) else lowAt x (k + 1) l
theorem lowAt_any (x : El) : ∀ (l : List El) (k : Nat), decide (lowAt x k l ≥ 0) = l.any fun y => ltI y.1 y.2 x.1 x.2
  | [], k => by simp [lowAt]
  | y :: l, k => by
    have := lowAt_any x l (k + 1)
    by_cases h : ltI y.1 y.2 x.1 x.2 = true
    · simp [lowAt, h]
    · simp only [lowAt, h, if_false, List.any_cons, Bool.false_or, Bool.false_eq_true]; exact this

set_option maxHeartbeats 4000000 in
set_option maxRecDepth 4000 in
theorem indexFunc_ok (t : RT) (l : List El) (hl : l.length ≤ 1000000) (gl : Nat → Int × Int) : PCalls Tryd.prog 51 [.pv (.list (l.map eC)), .pv (.clo 38 [.ref [t.pt] 0])] gl fun r gl' => r = .pv (.int .i64 (lowAt t.x 0 l)) ∧ gl' = gl := by
  refine pcalls_of_pwp noImm Tryd.func51 rfl (by simp) mixed (by kernel_rfl) fun gn => ?_
  simp
  refine pwp_loopS (α := Nat) (fun k => k ≤ l.length ∧ lowAt t.x 0 l = lowAt t.x k (l.drop k)) (fun k => [(0, .pv (.list (l.map eC))), (1, .pv (.clo 38 [.ref [t.pt] 0])), (7, .pv (.int .i64 l.length)), (8, .pv (.int .i64 k))]) (fun _ => []) (fun _ => gl) (fun _ => gn) (fun k => l.length - k) 0 (by simp) (by simp) ?_
  rintro k ⟨hk, he⟩
  by_cases hlt : k < l.length
  · rw [List.drop_eq_getElem_cons hlt, lowAt] at he
    simp [hlt, wide2, eC]
    refine (lower_ok t _ _ _).use ?_
    by_cases hc : ltI l[k].1 l[k].2 t.x.1 t.x.2 = true
    · rw [if_pos hc] at he
      simp [hc, he]
    · rw [if_neg hc] at he
      simp [hc]
      exact ⟨k + 1, ⟨by omega, he⟩, by omega, wr _ (by omega) (by omega)⟩
  · simp [hlt]
    rw [he, List.drop_eq_nil_of_le (by omega)]; rfl

theorem containsFunc_ok (t : RT) (l : List El) (hl : l.length ≤ 1000000) (gl : Nat → Int × Int) : PCalls Tryd.prog 40 [.pv (.list (l.map eC)), .pv (.clo 38 [.ref [t.pt] 0])] gl fun r gl' => r = .pv (.bool (l.any fun y => ltI y.1 y.2 t.x.1 t.x.2)) ∧ gl' = gl := by
  refine pcalls_of_pwp noImm Tryd.func40 rfl (by simp) mixed (by kernel_rfl) fun gn => ?_
  simp
  refine (indexFunc_ok t l hl _).use ?_
  have := lowAt_any t.x l 0
  simp only [ge_iff_le] at this
  simp [this]

mutual
/-- Is a tree well formed? -/
def RT.right : RT → Bool
  | .node r x b kids => decide ((kids.length : Int) = r) && (decide ((b.length : Int) ≤ r) && (RT.rightL r x 0 kids && !(b.any fun y => ltI y.1 y.2 x.1 x.2)))
def RT.rightL (r : Int) (x : El) : Nat → List RT → Bool
  | _, [] => true
  | i, k :: l => decide (k.rank = r - 1 - i) && (k.right && (!ltI k.x.1 k.x.2 x.1 x.2 && RT.rightL r x (i + 1) l))
end
theorem right_eq (t : RT) : t.right = (decide ((t.kids.length : Int) = t.rank) && (decide ((t.beside.length : Int) ≤ t.rank) && (RT.rightL t.rank t.x 0 t.kids && !(t.beside.any fun y => ltI y.1 y.2 t.x.1 t.x.2)))) := by
  cases t; rw [RT.right]; rfl
end Go.Proofs.YtbekdlgkoleblaaDoor
