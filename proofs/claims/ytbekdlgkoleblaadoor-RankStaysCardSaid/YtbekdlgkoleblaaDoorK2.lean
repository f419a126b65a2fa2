/- All things of a tree. -/
import Derived.Test.YtbekdlgkoleblaaDoorK1
namespace Go.Proofs.YtbekdlgkoleblaaDoor
set_option linter.unusedSimpArgs false
set_option linter.unusedVariables false

mutual
def RT.all : RT → List El
  | .node _ x b kids => x :: (b ++ RT.allL kids)
def RT.allL : List RT → List El
  | [] => []
  | k :: l => k.all ++ RT.allL l
end
theorem all_node (t : RT) : t.all = t.x :: (t.beside ++ RT.allL t.kids) := by cases t; simp only [RT.all, RT.x, RT.beside, RT.kids]
theorem allL_take : ∀ (l : List RT) (i : Nat) (h : i < l.length), RT.allL (l.take (i + 1)) = RT.allL (l.take i) ++ l[i].all
  | k :: l, 0, _ => by simp [RT.allL]
  | k :: l, i + 1, h => by
    have := allL_take l i (by simpa using h)
    simp only [List.take_succ_cons, RT.allL, List.getElem_cons_succ, this, List.append_assoc]
mutual
theorem all_len : ∀ t : RT, t.all.length = t.sz
  | .node _ x b kids => by have := allL_len kids; simp only [RT.all, RT.sz, List.length_cons, List.length_append, this]; omega
theorem allL_len : ∀ l : List RT, (RT.allL l).length = RT.szL l
  | [] => rfl
  | k :: l => by have := all_len k; have := allL_len l; simp only [RT.allL, RT.szL, List.length_append]; omega
end
theorem sz_kid (l : List RT) (i : Nat) (h : i < l.length) : l[i].sz ≤ RT.szL l := by
  have h1 := szL_take l i h
  have h2 := szL_le l (i + 1)
  omega

set_option maxHeartbeats 4000000 in
set_option maxRecDepth 4000 in
theorem rAllN_ok : ∀ (n : Nat) (t : RT) (gl : Nat → Int × Int), t.sz ≤ n → n ≤ 1000000 → PCalls Tryd.prog 18 [.pv t.pt] gl fun r gl' => r = .fresh (t.all.map eC) ∧ gl' = gl
  | 0, t, gl, h, _ => by have := sz_eq t; omega
  | n + 1, t, gl, h, hn => by
    have hz := sz_eq t
    have hkl := szL_len t.kids
    have hpt := ptL_map t.kids
    have hlen := all_len t
    have hand := all_node t
    refine pcalls_of_pwp noImm Tryd.func18 rfl (by simp) mixed (by kernel_rfl) fun gn => ?_
    simp [pt_eq t, hpt]
    refine (aheadE_ok t.x t.beside (by omega) _).use ?_
    simp [pt_eq t, hpt]
    refine pwp_loopS (α := Nat) (fun k => k ≤ t.kids.length) (fun k => [(3, .own 16 ((t.x :: (t.beside ++ RT.allL (t.kids.take k))).map eC)), (20, .pv (.list (t.kids.map fun k => [k.pt]))), (21, .pv (.int .i64 t.kids.length)), (22, .pv (.int .i64 k))]) (fun _ => []) (fun _ => gl) (fun _ => gn) (fun k => t.kids.length - k) 0 (by simp) (by simp [RT.allL]) ?_
    rintro k hk
    have hle := szL_le t.kids k
    have hll := allL_len (t.kids.take k)
    by_cases hlt : k < t.kids.length
    · have hle2 := szL_le t.kids (k + 1)
      have hks := sz_kid t.kids k hlt
      have hat := allL_take t.kids k hlt
      have hal := all_len t.kids[k]
      have hta := szL_take t.kids k hlt
      simp [hlt, wideK]
      refine (rAllN_ok n t.kids[k] _ (by omega) (by omega)).use ?_
      simp
      have w := wide2 (t.x :: (t.beside ++ RT.allL (t.kids.take k)))
      simp only [List.map_cons, List.map_append] at w
      refine ⟨⟨w, wide2 _, by omega, by omega⟩, k + 1, hlt, by omega, ?_, wr _ (by omega) (by omega)⟩
      rw [hat, List.map_append]
    · simp [hlt]
      rw [List.take_of_length_le (by omega), hand]
      simp

theorem rAll_ok (t : Option RT) (h : ∀ u, t = some u → u.sz ≤ 1000000) (gl : Nat → Int × Int) : PCalls Tryd.prog 18 [.pv (oP t)] gl fun r gl' => r = .fresh ((match t with | none => [] | some u => u.all).map eC) ∧ gl' = gl := by
  cases t with
  | none =>
    refine pcalls_of_pwp noImm Tryd.func18 rfl (by simp) mixed (by kernel_rfl) fun gn => ?_
    simp [oP]
  | some u => exact rAllN_ok 1000000 u gl (h u rfl) (Nat.le_refl _)
end Go.Proofs.YtbekdlgkoleblaaDoor
