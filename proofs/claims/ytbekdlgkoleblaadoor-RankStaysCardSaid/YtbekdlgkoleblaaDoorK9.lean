/- Is a tree well formed? The program's answer. -/
import Derived.Test.YtbekdlgkoleblaaDoorK8
namespace Go.Proofs.YtbekdlgkoleblaaDoor
set_option linter.unusedSimpArgs false
set_option linter.unusedVariables false

theorem rightL_drop (r : Int) (x : El) (l : List RT) (k : Nat) (h : k < l.length) : RT.rightL r x k (l.drop k) = (decide (l[k].rank = r - 1 - k) && (l[k].right && (!ltI l[k].x.1 l[k].x.2 x.1 x.2 && RT.rightL r x (k + 1) (l.drop (k + 1))))) := by
  rw [List.drop_eq_getElem_cons h, RT.rightL]

set_option maxHeartbeats 8000000 in
set_option maxRecDepth 4000 in
theorem rRightN_ok : ∀ (n : Nat) (t : RT) (gl : Nat → Int × Int), t.sz ≤ n → n ≤ 1000000 → PCalls Tryd.prog 15 [.pv t.pt] gl fun r gl' => r = .pv (.bool t.right) ∧ gl' = gl
  | 0, t, gl, h, _ => by have := sz_eq t; omega
  | n + 1, t, gl, h, hn => by
    have hz := sz_eq t
    have hkl := szL_len t.kids
    have hpt := ptL_map t.kids
    refine pcalls_of_pwp ptrImm Tryd.func15 rfl (by simp) mixed (by kernel_rfl) fun gn => ?_
    rw [right_eq]
    by_cases h1 : (t.kids.length : Int) = t.rank
    · by_cases h2 : (t.beside.length : Int) ≤ t.rank
      · have h2' : ¬ (t.rank < (t.beside.length : Int)) := by omega
        simp [pt_eq t, hpt, h1, h2, h2', bne_self_eq_false]
        refine pwp_loopS (α := Nat) (fun k => k ≤ t.kids.length ∧ RT.rightL t.rank t.x 0 t.kids = RT.rightL t.rank t.x k (t.kids.drop k)) (fun k => [(1, .pv (.ref [t.pt] 0)), (3, .pv (.clo 38 [.ref [t.pt] 0])), (34, .pv (.list (t.kids.map fun k => [k.pt]))), (35, .pv (.int .i64 t.rank)), (36, .pv (.int .i64 k))]) (fun _ => []) (fun _ => gl) (fun _ => gn) (fun k => t.kids.length - k) 0 (by simp) (by simp [pt_eq t, hpt]) ?_
        rintro k ⟨hk, he⟩
        by_cases hlt : k < t.kids.length
        · have hks := sz_kid t.kids k hlt
          rw [rightL_drop _ _ _ _ hlt] at he
          have hltR : (k : Int) < t.rank := by omega
          have w1 : IntKind.i64.wrap (IntKind.i64.wrap (t.rank - 1) - (k : Int)) = t.rank - 1 - k := by rw [wr (t.rank - 1) (by omega) (by omega), wr _ (by omega) (by omega)]
          by_cases c1 : t.kids[k].rank = t.rank - 1 - k
          · have c1' : (t.kids[k].rank != t.rank - 1 - k) = false := by simp [c1]
            simp [hlt, hltR, wideK, pt_eq t, pt_eq t.kids[k], hpt, w1, c1']
            have hr := rRightN_ok n t.kids[k] gl (by omega) (by omega)
            rw [pt_eq t.kids[k]] at hr
            refine hr.use ?_
            by_cases c2 : t.kids[k].right = true
            · simp [c2]
              have hlo := lower_ok t t.kids[k].x.1 t.kids[k].x.2 gl
              rw [pt_eq t, hpt] at hlo
              refine hlo.use ?_
              by_cases c3 : ltI t.kids[k].x.1 t.kids[k].x.2 t.x.1 t.x.2 = true
              · simp [c3, he]
              · simp [c3]

                refine ⟨k + 1, ⟨by omega, ?_⟩, by omega, wr _ (by omega) (by omega)⟩
                rw [he]
                simp [c1, c2, c3]
            · simp [c2, he]
          · have c1' : (t.kids[k].rank != t.rank - 1 - k) = true := by simp [c1]
            simp [hlt, hltR, wideK, pt_eq t, pt_eq t.kids[k], hpt, w1, c1', he, c1]
        · have hltR : ¬ (k : Int) < t.rank := by omega
          simp [hlt, hltR, pt_eq t, hpt]
          have hco := containsFunc_ok t t.beside (by omega) gl
          rw [pt_eq t, hpt] at hco
          refine hco.use ?_
          rw [List.drop_eq_nil_of_le (by omega), RT.rightL] at he
          simp [he, h2]
      · have h2' : t.rank < (t.beside.length : Int) := by omega
        simp [pt_eq t, hpt, h1, h2, h2', bne_self_eq_false]
    · have h1' : ((t.kids.length : Int) != t.rank) = true := by simpa using h1
      simp [pt_eq t, hpt, h1, h1']
end Go.Proofs.YtbekdlgkoleblaaDoor
