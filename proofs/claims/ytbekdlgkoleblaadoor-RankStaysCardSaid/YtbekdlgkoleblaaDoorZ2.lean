/- The document's order: rows of elements, the same, put, sorted (where no heap is). -/
import Derived.Test.YtbekdlgkoleblaaDoorK16
set_option linter.unusedSimpArgs false
set_option linter.unusedVariables false
namespace Go.Proofs.YtbekdlgkoleblaaDoor


theorem refLess_ok (p i q j : Int) (gl : Nat → Int × Int) : PCalls Tryd.prog 19 [.pv (eP p i), .pv (eP q j)] gl fun r gl' => r = .pv (.bool (ltI p i q j)) ∧ gl' = gl := by
  refine pcalls_of_pwp noImm Tryd.func19 rfl (by simp) mixed (by kernel_rfl) fun gn => ?_
  by_cases h : p < q
  · simp [eP, ltI, h]
  · by_cases h' : p = q
    · subst h'; simp [eP, ltI]
    · simp [eP, ltI, h, h', beq_false_of_ne h']

/-- Where an element belongs. -/
def putAt : List (Int × Int) → Int × Int → Nat
  | [], _ => 0
  | y :: l, x => if ltI y.1 y.2 x.1 x.2 then putAt l x + 1 else 0
def putL : List (Int × Int) → Int × Int → List (Int × Int)
  | [], x => [x]
  | y :: l, x => if ltI y.1 y.2 x.1 x.2 then y :: putL l x else x :: y :: l

theorem putAt_le : ∀ (l : List (Int × Int)) (x : Int × Int), putAt l x ≤ l.length
  | [], _ => Nat.le_refl _
  | y :: l, x => by
    have := putAt_le l x
    simp only [putAt]; split <;> simp; omega
theorem putL_eq : ∀ (l : List (Int × Int)) (x : Int × Int), putL l x = l.take (putAt l x) ++ x :: l.drop (putAt l x)
  | [], _ => rfl
  | y :: l, x => by
    simp only [putAt, putL]; split
    · simp [putL_eq l x]
    · simp
theorem putAt_less : ∀ (l : List (Int × Int)) (x : Int × Int) (k : Nat) (h : k < l.length), k < putAt l x → ltI l[k].1 l[k].2 x.1 x.2 = true
  | y :: l, x, 0, _, h => by
    simp only [putAt] at h
    split at h
    · assumption
    · omega
  | y :: l, x, k + 1, hk, h => by
    simp only [putAt] at h
    split at h
    · exact putAt_less l x k (by simpa using hk) (by omega)
    · omega
theorem putAt_stop : ∀ (l : List (Int × Int)) (x : Int × Int) (h : putAt l x < l.length), ltI l[putAt l x].1 l[putAt l x].2 x.1 x.2 = false
  | y :: l, x, h => by
    by_cases hy : ltI y.1 y.2 x.1 x.2 = true
    · simp only [putAt, hy, if_true] at h ⊢
      exact putAt_stop l x (by simpa using h)
    · simp only [putAt, hy, if_false] at h ⊢
      simpa using hy
theorem putL_len (l : List (Int × Int)) (x : Int × Int) : (putL l x).length = l.length + 1 := by
  rw [putL_eq]; have := putAt_le l x; simp; omega



set_option maxHeartbeats 2000000 in
theorem same_ok (a b : List (Int × Int)) (ha : a.length ≤ 1000000) (hb : b.length ≤ 1000000) (gl : Nat → Int × Int) : PCalls Tryd.prog 17 [.pv (.list (a.map eC)), .pv (.list (b.map eC))] gl fun r gl' => r = .pv (.bool (decide (a = b))) ∧ gl' = gl := by
  refine pcalls_of_pwp noImm Tryd.func17 rfl (by simp) mixed (by kernel_rfl) fun gn => ?_
  by_cases hl : a.length = b.length
  · simp [hl]
    refine pwp_loopS (α := Nat) (fun k => k ≤ a.length ∧ a.take k = b.take k) (fun k => [(0, .pv (.list (a.map eC))), (1, .pv (.list (b.map eC))), (4, .pv (.bool false)), (5, .pv (.int .i64 k))]) (fun _ => []) (fun _ => gl) (fun _ => gn) (fun k => a.length - k) 0 (by simp) (by simp) ?_
    rintro k ⟨hk, he⟩
    by_cases hlt : k < a.length
    · have hlt2 : k < b.length := by omega
      simp [hlt, hlt2, wide2, eC, pairEq]
      split
      · rename_i h
        intro e
        subst e
        simp at h
      · rename_i h
        have h1 : a[k].1 = b[k].1 := Decidable.byContradiction fun e => h (.inl e)
        have h2 : a[k].2 = b[k].2 := Decidable.byContradiction fun e => h (.inr e)
        refine ⟨k + 1, ⟨by omega, ?_⟩, by omega, wr _ (by omega) (by omega)⟩
        rw [List.take_succ_eq_append_getElem hlt, List.take_succ_eq_append_getElem hlt2, he, Prod.ext h1 h2]
    · simp [hlt]
      have e1 : k = a.length := by omega
      rw [e1, List.take_length, hl, List.take_length] at he
      exact he
  · have hl' : ¬ (a.length : Int) = b.length := by omega
    simp [hl']
    exact fun e => hl (by rw [e])


set_option maxHeartbeats 4000000 in
set_option maxRecDepth 4000 in
theorem put_ok (l : List (Int × Int)) (p i : Int) (hl : l.length ≤ 1000000) (gl : Nat → Int × Int) : PCalls Tryd.prog 37 [.pv (.list (l.map eC)), .pv (eP p i)] gl fun r gl' => r = .fresh ((putL l (p, i)).map eC) ∧ gl' = gl := by
  refine pcalls_of_pwp noImm Tryd.func37 rfl (by simp) mixed (by kernel_rfl) fun gn => ?_
  have hp := putAt_le l (p, i)
  have fin : List.map eC (l.take (putAt l (p, i))) ++ ([.int .i64 p, .int .i64 i] :: List.map eC (l.drop (putAt l (p, i)))) = (putL l (p, i)).map eC := by
    rw [putL_eq]; simp [eC]
  have tail : putAt l (p, i) ≤ l.length ∧ (Wide 2 [] ∧ min (putAt l (p, i)) l.length * 16 ≤ 140737488355328 ∧ min (putAt l (p, i)) l.length ≤ 140737488355328) ∧
      (Wide 2 [[PV.int IntKind.i64 p, PV.int IntKind.i64 i]] ∧ (min (putAt l (p, i)) l.length + 1) * 16 ≤ 140737488355328 ∧ min (putAt l (p, i)) l.length ≤ 140737488355327) ∧
        putAt l (p, i) ≤ l.length ∧
          (Wide 2 (List.take (putAt l (p, i)) (List.map eC l) ++ [[PV.int IntKind.i64 p, PV.int IntKind.i64 i]]) ∧
              (min (putAt l (p, i)) l.length + 1 + (l.length - putAt l (p, i))) * 16 ≤ 140737488355328 ∧
                min (putAt l (p, i)) l.length + 1 + (l.length - putAt l (p, i)) ≤ 140737488355328) ∧
            List.take (putAt l (p, i)) (List.map eC l) ++ [PV.int IntKind.i64 p, PV.int IntKind.i64 i] :: List.drop (putAt l (p, i)) (List.map eC l) = List.map eC (putL l (p, i)) := by
    have w1 : Wide 2 [[PV.int IntKind.i64 p, PV.int IntKind.i64 i]] := fun x hx => by rw [List.mem_singleton.1 hx]; rfl
    refine ⟨hp, ⟨(fun x hx => by cases hx), by omega, by omega⟩, ⟨w1, by omega, by omega⟩, hp, ⟨?_, by omega, by omega⟩, ?_⟩
    · intro x hx
      rcases List.mem_append.1 hx with hx | hx
      · exact wide2 l x (List.mem_of_mem_take hx)
      · exact w1 x hx
    · rw [← fin]; simp
  have hw1 : ∀ k, Wide 2 (List.take k (l.map eC)) := fun k x hx => wide2 l x (List.mem_of_mem_take hx)
  have hw2 : ∀ k, Wide 2 (List.drop k (l.map eC)) := fun k x hx => wide2 l x (List.mem_of_mem_drop hx)
  simp [eP]
  refine pwp_loopS (α := Nat) (fun k => k ≤ putAt l (p, i)) (fun k => [(0, .pv (.list (l.map eC))), (3, .loc 3 0), (4, .pv (.list [])), (5, .pv (.int .i64 k))]) (fun _ => [(3, [.int .i64 p, .int .i64 i])]) (fun _ => gl) (fun _ => gn) (fun k => l.length - k) 0 (by simp) (by simp) ?_
  rintro k hk
  by_cases hlt : k < l.length
  · simp [hlt, wide2, eC]
    refine (refLess_ok _ _ _ _ _).use ?_
    by_cases hk' : k < putAt l (p, i)
    · have := putAt_less l (p, i) k hlt hk'
      simp only at this
      simp [this]
      refine ⟨k + 1, hk', by omega, wr _ (by omega) (by omega)⟩
    · obtain rfl : k = putAt l (p, i) := by omega
      have := putAt_stop l (p, i) hlt
      simp only at this
      simp [this, wide2, hw1, hw2]
      exact tail
  · have e : k = l.length := by omega
    simp [hlt, wide2, hw1, hw2]
    obtain rfl : k = putAt l (p, i) := by omega
    exact tail


def le (x y : El) : Prop := ltI y.1 y.2 x.1 x.2 = false

theorem le_iff (x y : El) : le x y ↔ x.1 < y.1 ∨ (x.1 = y.1 ∧ x.2 ≤ y.2) := by
  unfold le ltI
  rw [Bool.or_eq_false_iff, Bool.and_eq_false_iff, decide_eq_false_iff_not, decide_eq_false_iff_not, decide_eq_false_iff_not]
  omega
theorem lt_iff (p i q j : Int) : ltI p i q j = true ↔ p < q ∨ (p = q ∧ i < j) := by
  unfold ltI
  rw [Bool.or_eq_true, Bool.and_eq_true, decide_eq_true_iff, decide_eq_true_iff, decide_eq_true_iff]
theorem lt_le {x y : El} (h : ltI x.1 x.2 y.1 y.2 = true) : le x y := by
  rw [lt_iff] at h; rw [le_iff]; omega
theorem le_refl (x : El) : le x x := by rw [le_iff]; omega
theorem le_trans {x y z : El} (h : le x y) (k : le y z) : le x z := by
  rw [le_iff] at h k ⊢; omega
theorem le_antisymm {x y : El} (h : le x y) (k : le y x) : x = y := by
  rw [le_iff] at h k
  exact Prod.ext (by omega) (by omega)

def Srt (l : List El) : Prop := l.Pairwise le

theorem srt_uniq : ∀ {a b : List El}, Srt a → Srt b → a.Perm b → a = b
  | [], b, _, _, h => (List.nil_perm.1 h).symm
  | x :: a, [], _, _, h => absurd (List.perm_nil.1 h) (by simp)
  | x :: a, y :: b, ha, hb, h => by
    have hx : x ∈ y :: b := h.subset (List.mem_cons_self ..)
    have hy : y ∈ x :: a := h.symm.subset (List.mem_cons_self ..)
    have e : x = y := by
      refine le_antisymm ?_ ?_
      · rcases List.mem_cons.1 hy with rfl | hy
        · exact le_refl _
        · exact (List.pairwise_cons.1 ha).1 _ hy
      · rcases List.mem_cons.1 hx with rfl | hx
        · exact le_refl _
        · exact (List.pairwise_cons.1 hb).1 _ hx
    subst e
    rw [srt_uniq (List.pairwise_cons.1 ha).2 (List.pairwise_cons.1 hb).2 ((List.perm_cons x).1 h)]

theorem putL_perm : ∀ (l : List El) (x : El), (putL l x).Perm (x :: l)
  | [], _ => .refl _
  | y :: l, x => by
    simp only [putL]; split
    · exact ((putL_perm l x).cons y).trans (.swap x y l)
    · exact .refl _
theorem putL_srt : ∀ (l : List El) (x : El), Srt l → Srt (putL l x)
  | [], x, _ => List.pairwise_cons.2 ⟨fun _ h => (by cases h), .nil⟩
  | y :: l, x, h => by
    obtain ⟨h1, h2⟩ := List.pairwise_cons.1 h
    simp only [putL]; split
    · rename_i hl
      refine List.pairwise_cons.2 ⟨fun z hz => ?_, putL_srt l x h2⟩
      rcases List.mem_cons.1 ((putL_perm l x).subset hz) with rfl | hz
      · exact lt_le hl
      · exact h1 z hz
    · rename_i hl
      have hxy : le x y := by unfold le; simpa using hl
      refine List.pairwise_cons.2 ⟨fun z hz => ?_, h⟩
      rcases List.mem_cons.1 hz with rfl | hz
      · exact hxy
      · exact le_trans hxy (h1 z hz)

/-- Of a row in order, and another one, all in order. -/
def sumL (a b : List El) : List El := b.foldl putL a
def sortL (l : List El) : List El := sumL [] l

theorem sumL_perm : ∀ (b a : List El), (sumL a b).Perm (a ++ b)
  | [], a => by simp [sumL]
  | x :: b, a => (sumL_perm b (putL a x)).trans (((putL_perm a x).append_right b).trans List.perm_middle.symm)
theorem sumL_srt : ∀ (b a : List El), Srt a → Srt (sumL a b)
  | [], a, h => h
  | x :: b, a, h => sumL_srt b (putL a x) (putL_srt a x h)
theorem sumL_len (b a : List El) : (sumL a b).length = a.length + b.length := by
  rw [(sumL_perm b a).length_eq, List.length_append]
theorem sortL_perm (l : List El) : (sortL l).Perm l := sumL_perm l []
theorem sortL_srt (l : List El) : Srt (sortL l) := sumL_srt l [] .nil
theorem sortL_len (l : List El) : (sortL l).length = l.length := by rw [(sortL_perm l).length_eq]
theorem sort_eq {a b : List El} (ha : Srt a) (h : a.Perm b) : a = sortL b := srt_uniq ha (sortL_srt b) (h.trans (sortL_perm b).symm)
theorem sumL_sort (a b : List El) : sumL (sortL a) (sortL b) = sortL (a ++ b) :=
  sort_eq (sumL_srt _ _ (sortL_srt a)) ((sumL_perm _ _).trans ((sortL_perm a).append (sortL_perm b)))
theorem sort_perm {a b : List El} (h : a.Perm b) : sortL a = sortL b := sort_eq (sortL_srt a) ((sortL_perm a).trans h)
theorem sort_srt {a : List El} (h : Srt a) : sortL a = a := (sort_eq h (.refl a)).symm


theorem sumL_take (a b : List El) (k : Nat) (h : k < b.length) : sumL a (b.take (k + 1)) = putL (sumL a (b.take k)) b[k] := by
  rw [List.take_succ_eq_append_getElem h]
  unfold sumL
  rw [List.foldl_append]
  rfl

set_option maxHeartbeats 2000000 in
theorem sort_ok (l : List El) (hl : l.length ≤ 100000) (gl : Nat → Int × Int) : PCalls Tryd.prog 13 [.pv (.list (l.map eC))] gl fun r gl' => r = .pv (.list ((sortL l).map eC)) ∧ gl' = gl := by
  refine pcalls_of_pwp noImm Tryd.func13 rfl (by simp) mixed (by kernel_rfl) fun gn => ?_
  simp
  refine pwp_loopS (α := Nat) (fun k => k ≤ l.length) (fun k => [(0, .pv (.list (l.map eC))), (3, .pv (.list ((sortL (l.take k)).map eC))), (4, .pv (.int .i64 k))]) (fun _ => []) (fun _ => gl) (fun _ => gn) (fun k => l.length - k) 0 (by simp) (by simp [sortL, sumL]) ?_
  rintro k hk
  by_cases hlt : k < l.length
  · simp [hlt, wide2, eC]
    refine (put_ok (sortL (l.take k)) l[k].1 l[k].2 (by rw [sortL_len]; simp; omega) _).use ?_
    simp
    refine ⟨k + 1, hlt, by omega, ?_, wr _ (by omega) (by omega)⟩
    rw [show sortL (l.take (k + 1)) = _ from sumL_take [] l k hlt]
    rfl
  · simp [hlt]
    rw [List.take_of_length_le (by omega)]

end Go.Proofs.YtbekdlgkoleblaaDoor
