/- The document's trees with ranks: the rank, all things. -/
import Derived.Test.YtbekdlgkoleblaaDoorK3
namespace Go.Proofs.YtbekdlgkoleblaaDoor
set_option linter.unusedSimpArgs false
set_option linter.unusedVariables false

theorem refRank_ok (t : Option RT) (gl : Nat → Int × Int) : PCalls Tryd.prog 28 [.pv (.agg (oC t))] gl fun r gl' => r = .pv (.int .i64 (match t with | none => -1 | some t => t.rank)) ∧ gl' = gl := by
  refine pcalls_of_pwp noImm Tryd.func28 rfl (by simp) mixed (by kernel_rfl) fun gn => ?_
  cases t with
  | none => simp [oC]
  | some t =>
    have hz := sz_eq t
    have e0 : ((t.sz : Int) == 0) = false := beq_false_of_ne (by omega)
    have n1 : t.sz ≠ 0 := by omega
    simp [oC, rc_eq t, e0, n1]

set_option maxHeartbeats 4000000 in
set_option maxRecDepth 4000 in
theorem refAllN_ok : ∀ (n : Nat) (t : RT) (gl : Nat → Int × Int), t.sz ≤ n → n ≤ 1000000 → PCalls Tryd.prog 30 [.pv (.agg t.rc)] gl fun r gl' => r = .fresh (t.all.map eC) ∧ gl' = gl
  | 0, t, gl, h, _ => by have := sz_eq t; omega
  | n + 1, t, gl, h, hn => by
    have hz := sz_eq t
    have e0 : ((t.sz : Int) == 0) = false := beq_false_of_ne (by omega)
    have n1 : t.sz ≠ 0 := by omega
    have hkl := szL_len t.kids
    have hlen := all_len t
    have hand := all_node t
    have w1 : Wide 2 [[PV.int IntKind.i64 t.x.1, PV.int IntKind.i64 t.x.2]] := fun y hy => by rw [List.mem_singleton.1 hy]; rfl
    refine pcalls_of_pwp noImm Tryd.func30 rfl (by simp) mixed (by kernel_rfl) fun gn => ?_
    simp [rc_eq t, e0, n1, rcL_map, wide2, w1]
    refine ⟨⟨by omega, by omega⟩, ?_⟩
    refine pwp_loopS (α := Nat) (fun k => k ≤ t.kids.length) (fun k => [(1, .loc 1 0), (3, .own 10 ((t.x :: (t.beside ++ RT.allL (t.kids.take k))).map eC)), (4, .pv (.int .i64 k))]) (fun _ => [(1, [.int .i64 t.rank, .int .i64 t.x.1, .int .i64 t.x.2, .list (t.beside.map eC), .list (t.kids.map RT.rc), .int .i64 (t.sz : Int)])]) (fun _ => gl) (fun _ => gn) (fun k => t.kids.length - k) 0 (by simp) (by simp [RT.allL, eC]) ?_
    rintro k hk
    have hle := szL_le t.kids k
    have hll := allL_len (t.kids.take k)
    by_cases hlt : k < t.kids.length
    · have hle2 := szL_le t.kids (k + 1)
      have hks := sz_kid t.kids k hlt
      have hat := allL_take t.kids k hlt
      have hal := all_len t.kids[k]
      have hta := szL_take t.kids k hlt
      have hrc := rc_len t.kids[k]
      have htk : List.take 6 t.kids[k].rc = t.kids[k].rc := List.take_of_length_le (by omega)
      simp [hlt, wideR, hrc, htk]
      refine (refAllN_ok n t.kids[k] _ (by omega) (by omega)).use ?_
      simp
      have w := wide2 (t.x :: (t.beside ++ RT.allL (t.kids.take k)))
      simp only [List.map_cons, List.map_append] at w
      refine ⟨⟨w, wide2 _, by omega, by omega⟩, k + 1, hlt, by omega, ?_, wr _ (by omega) (by omega)⟩
      rw [hat, List.map_append]
    · simp [hlt]
      rw [List.take_of_length_le (by omega), hand]
      simp
end Go.Proofs.YtbekdlgkoleblaaDoor
