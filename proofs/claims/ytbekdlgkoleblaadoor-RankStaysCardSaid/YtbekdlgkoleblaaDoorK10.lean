/- Is a tree well formed? The document's answer; and the program's of none. -/
import Derived.Test.YtbekdlgkoleblaaDoorK9
namespace Go.Proofs.YtbekdlgkoleblaaDoor
set_option linter.unusedSimpArgs false
set_option linter.unusedVariables false

def oRight : Option RT → Bool
  | none => true
  | some t => t.right
theorem rRight_ok (t : Option RT) (h : ∀ u, t = some u → u.sz ≤ 1000000) (gl : Nat → Int × Int) : PCalls Tryd.prog 15 [.pv (oP t)] gl fun r gl' => r = .pv (.bool (oRight t)) ∧ gl' = gl := by
  cases t with
  | none =>
    refine pcalls_of_pwp ptrImm Tryd.func15 rfl (by simp) mixed (by kernel_rfl) fun gn => ?_
    simp [oP, oRight]
  | some u => exact rRightN_ok 1000000 u gl (h u rfl) (Nat.le_refl _)

theorem any_take (p : El → Bool) (l : List El) (k : Nat) (h : k < l.length) (h0 : (l.take k).any p = false) (h1 : p l[k] = false) : (l.take (k + 1)).any p = false := by
  rw [List.take_succ_eq_append_getElem h, List.any_append, h0]
  simp [h1]

set_option maxHeartbeats 8000000 in
set_option maxRecDepth 4000 in
theorem refRightN_ok : ∀ (n : Nat) (t : RT) (gl : Nat → Int × Int), t.sz ≤ n → n ≤ 1000000 → PCalls Tryd.prog 29 [.pv (.agg t.rc)] gl fun r gl' => r = .pv (.bool t.right) ∧ gl' = gl
  | 0, t, gl, h, _ => by have := sz_eq t; omega
  | n + 1, t, gl, h, hn => by
    have hz := sz_eq t
    have e0 : ((t.sz : Int) == 0) = false := beq_false_of_ne (by omega)
    have n1 : t.sz ≠ 0 := by omega
    have hkl := szL_len t.kids
    refine pcalls_of_pwp noImm Tryd.func29 rfl (by simp) mixed (by kernel_rfl) fun gn => ?_
    rw [right_eq]
    by_cases h1 : (t.kids.length : Int) = t.rank
    · have h1' : ((t.kids.length : Int) != t.rank) = false := by simpa using h1
      by_cases h2 : (t.beside.length : Int) ≤ t.rank
      · have h2' : ¬ (t.rank < (t.beside.length : Int)) := by omega
        simp [rc_eq t, e0, n1, rcL_map, h1', h2']
        refine pwp_loopS (α := Nat) (fun k => k ≤ t.beside.length ∧ (t.beside.take k).any (fun y => ltI y.1 y.2 t.x.1 t.x.2) = false) (fun k => [(1, .loc 1 0), (3, .pv (.int .i64 k))]) (fun _ => [(1, [.int .i64 t.rank, .int .i64 t.x.1, .int .i64 t.x.2, .list (t.beside.map eC), .list (t.kids.map RT.rc), .int .i64 (t.sz : Int)])]) (fun _ => gl) (fun _ => gn) (fun k => t.beside.length - k) 0 (by simp) (by simp) ?_
        rintro k ⟨hk, he⟩
        by_cases hlt : k < t.beside.length
        · simp [hlt, wide2, eC]
          refine (rLess_ok _ _ _ _ _).use ?_
          by_cases hc : ltI t.beside[k].1 t.beside[k].2 t.x.1 t.x.2 = true
          · have hany : t.beside.any (fun y => ltI y.1 y.2 t.x.1 t.x.2) = true := List.any_eq_true.2 ⟨t.beside[k], List.getElem_mem hlt, hc⟩
            simp [hc, hany]
            exact fun _ _ _ => ⟨t.beside[k].1, t.beside[k].2, List.getElem_mem hlt, hc⟩
          · simp [hc]
            exact ⟨k + 1, ⟨by omega, by simpa using any_take _ _ k hlt he (by simpa using hc)⟩, by omega, wr _ (by omega) (by omega)⟩
        · rw [List.take_of_length_le (by omega)] at he
          simp [hlt, he]
          refine pwp_loopS (α := Nat) (fun k => k ≤ t.kids.length ∧ RT.rightL t.rank t.x 0 t.kids = RT.rightL t.rank t.x k (t.kids.drop k)) (fun k => [(1, .loc 1 0), (5, .pv (.int .i64 k))]) (fun _ => [(1, [.int .i64 t.rank, .int .i64 t.x.1, .int .i64 t.x.2, .list (t.beside.map eC), .list (t.kids.map RT.rc), .int .i64 (t.sz : Int)])]) (fun _ => gl) (fun _ => gn) (fun k => t.kids.length - k) 0 (by simp) (by simp) ?_
          rintro k ⟨hk, hr⟩
          by_cases hlt : k < t.kids.length
          · have hks := sz_kid t.kids k hlt
            rw [rightL_drop _ _ _ _ hlt] at hr
            have hrc := rc_len t.kids[k]
            have htk : List.take 6 t.kids[k].rc = t.kids[k].rc := List.take_of_length_le (by omega)
            have w1 : IntKind.i64.wrap (IntKind.i64.wrap (t.rank - 1) - (k : Int)) = t.rank - 1 - k := by rw [wr (t.rank - 1) (by omega) (by omega), wr _ (by omega) (by omega)]
            simp [hlt, wideR, hrc, htk]
            refine (refRightN_ok n t.kids[k] _ (by omega) (by omega)).use ?_
            simp [hlt, wideR, rc_eq t.kids[k]]
            refine (rLess_ok _ _ _ _ _).use ?_
            by_cases c2 : t.kids[k].right = true
            · by_cases c3 : ltI t.kids[k].x.1 t.kids[k].x.2 t.x.1 t.x.2 = true
              · simp [c2, c3, hr]
              · by_cases c1 : t.kids[k].rank = t.rank - 1 - k
                · have c1' : (t.kids[k].rank != t.rank - 1 - k) = false := by simp [c1]
                  simp [c2, c3, hlt, wideR, rc_eq t.kids[k], w1, c1']
                  refine ⟨k + 1, ⟨by omega, ?_⟩, by omega, wr _ (by omega) (by omega)⟩
                  rw [hr]
                  simp [c1, c2, c3]
                · have c1' : (t.kids[k].rank != t.rank - 1 - k) = true := by simp [c1]
                  simp [c2, c3, hlt, wideR, rc_eq t.kids[k], w1, c1', hr, c1]
            · simp [c2, hr]
          · rw [List.drop_eq_nil_of_le (by omega), RT.rightL] at hr
            simp [hlt, hr, h1, h2]
            exact ⟨by omega, fun a b hm => by simpa using List.any_eq_false.1 he _ hm⟩
      · have h2' : t.rank < (t.beside.length : Int) := by omega
        simp [rc_eq t, e0, n1, rcL_map, h1', h2', h2]
    · have h1' : ((t.kids.length : Int) != t.rank) = true := by simpa using h1
      simp [rc_eq t, e0, n1, rcL_map, h1', h1]

theorem refRight_ok (t : Option RT) (h : ∀ u, t = some u → u.sz ≤ 1000000) (gl : Nat → Int × Int) : PCalls Tryd.prog 29 [.pv (.agg (oC t))] gl fun r gl' => r = .pv (.bool (oRight t)) ∧ gl' = gl := by
  cases t with
  | none =>
    refine pcalls_of_pwp noImm Tryd.func29 rfl (by simp) mixed (by kernel_rfl) fun gn => ?_
    simp [oC, oRight]
  | some u => exact refRightN_ok 1000000 u gl (h u rfl) (Nat.le_refl _)
theorem refAll_ok (t : Option RT) (h : ∀ u, t = some u → u.sz ≤ 1000000) (gl : Nat → Int × Int) : PCalls Tryd.prog 30 [.pv (.agg (oC t))] gl fun r gl' => r = .fresh ((match t with | none => [] | some u => u.all).map eC) ∧ gl' = gl := by
  cases t with
  | none =>
    refine pcalls_of_pwp noImm Tryd.func30 rfl (by simp) mixed (by kernel_rfl) fun gn => ?_
    simp [oC]
  | some u => exact refAllN_ok 1000000 u gl (h u rfl) (Nat.le_refl _)
end Go.Proofs.YtbekdlgkoleblaaDoor
