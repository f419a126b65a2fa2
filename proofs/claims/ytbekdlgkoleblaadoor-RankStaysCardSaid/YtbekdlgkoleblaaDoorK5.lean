/- The document's trees with ranks: linked, and a thing. -/
import Derived.Test.YtbekdlgkoleblaaDoorK4
namespace Go.Proofs.YtbekdlgkoleblaaDoor
set_option linter.unusedSimpArgs false
set_option linter.unusedVariables false

/-- A tree, and a thing. -/
def RT.skew (x : El) (t : RT) : RT := if ltI t.x.1 t.x.2 x.1 x.2 = true then .node t.rank t.x (x :: t.beside) t.kids else .node t.rank x (t.x :: t.beside) t.kids
def oSkew (x : El) (a b : Option RT) : RT × Nat := match oLink a b with
  | (none, _) => (RT.leaf x, 1)
  | (some t, n) => (RT.skew x t, n + 2)
theorem skew_sz (x : El) (t : RT) : (RT.skew x t).sz = t.sz + 1 := by
  have ht := sz_eq t
  unfold RT.skew
  split <;> (simp only [RT.sz, List.length_cons]; omega)
theorem skew_rc (x : El) (t : RT) (hl : ltI t.x.1 t.x.2 x.1 x.2 = true) : (RT.skew x t).rc = [.int .i64 t.rank, .int .i64 t.x.1, .int .i64 t.x.2, .list (eC x :: t.beside.map eC), .list (t.kids.map RT.rc), .int .i64 ((t.sz + 1 : Nat) : Int)] := by
  have e : RT.skew x t = .node t.rank t.x (x :: t.beside) t.kids := if_pos hl
  rw [rc_eq, skew_sz, e]
  show [PV.int .i64 t.rank, .int .i64 t.x.1, .int .i64 t.x.2, .list ((x :: t.beside).map eC), .list (RT.rcL t.kids), .int .i64 ((t.sz + 1 : Nat) : Int)] = _
  rw [rcL_map, List.map_cons]
theorem skew_rc' (x : El) (t : RT) (hl : ¬ ltI t.x.1 t.x.2 x.1 x.2 = true) : (RT.skew x t).rc = [.int .i64 t.rank, .int .i64 x.1, .int .i64 x.2, .list (eC t.x :: t.beside.map eC), .list (t.kids.map RT.rc), .int .i64 ((t.sz + 1 : Nat) : Int)] := by
  have e : RT.skew x t = .node t.rank x (t.x :: t.beside) t.kids := if_neg hl
  rw [rc_eq, skew_sz, e]
  show [PV.int .i64 t.rank, .int .i64 x.1, .int .i64 x.2, .list ((t.x :: t.beside).map eC), .list (RT.rcL t.kids), .int .i64 ((t.sz + 1 : Nat) : Int)] = _
  rw [rcL_map, List.map_cons]

set_option maxHeartbeats 8000000 in
set_option maxRecDepth 4000 in
theorem refSkew_ok (x : El) (a b : Option RT) (ha : ∀ u, a = some u → u.sz ≤ 100000 ∧ -1000000 ≤ u.rank ∧ u.rank ≤ 1000000) (hb : ∀ u, b = some u → u.sz ≤ 100000 ∧ -1000000 ≤ u.rank ∧ u.rank ≤ 1000000)
    (hz : ∀ u, (oLink a b).1 = some u → u.sz ≤ 200000) (hn : (oLink a b).2 ≤ 2) (gl : Nat → Int × Int) : PCalls Tryd.prog 24 [.pv (.agg [.int .i64 x.1, .int .i64 x.2]), .pv (.agg (oC a)), .pv (.agg (oC b))] gl fun r gl' => r = .tup [.pv (.agg (oSkew x a b).1.rc), .pv (.int .i64 (oSkew x a b).2)] ∧ gl' = gl := by
  have L := refLink_ok a b ha hb gl
  have hoa : (oC a).length = 6 := by cases a with | none => rfl | some u => exact rc_len u
  have hob : (oC b).length = 6 := by cases b with | none => rfl | some u => exact rc_len u
  have hta : List.take 6 (oC a) = oC a := List.take_of_length_le (by omega)
  have htb : List.take 6 (oC b) = oC b := List.take_of_length_le (by omega)
  unfold oSkew
  generalize oLink a b = M at L hz hn
  obtain ⟨o, n⟩ := M
  simp only at L hz hn ⊢
  have hnw : IntKind.i64.wrap ((n : Int) + 2) = ((n + 2 : Nat) : Int) := wr _ (by omega) (by omega)
  have w1 : ∀ y : El, Wide 2 [[PV.int IntKind.i64 y.1, PV.int IntKind.i64 y.2]] := fun y z hz => by rw [List.mem_singleton.1 hz]; rfl
  refine pcalls_of_pwp noImm Tryd.func24 rfl (by simp) mixed (by kernel_rfl) fun gn => ?_
  cases o with
  | none =>
    simp [hoa, hob, hta, htb]
    refine L.use ?_
    simp [oC]
    refine (refLeaf_ok x _).use ?_
    have hlf := rc_len (RT.leaf x)
    simp [hlf]
    exact List.take_of_length_le (by omega)
  | some t =>
    have hz1 := sz_eq t
    have hz2 := hz t rfl
    have e0 : ((t.sz : Int) == 0) = false := beq_false_of_ne (by omega)
    have n1 : t.sz ≠ 0 := by omega
    have hs : IntKind.i64.wrap ((t.sz : Int) + 1) = ((t.sz + 1 : Nat) : Int) := wr _ (by omega) (by omega)
    by_cases hl : ltI t.x.1 t.x.2 x.1 x.2 = true
    · have hR := skew_rc x t hl
      simp [hoa, hob, hta, htb]
      refine L.use ?_
      simp [oC, rc_eq t, e0, n1]
      refine (rLess_ok _ _ _ _ _).use ?_
      simp [hl, wide2, w1, hs, hnw]
      refine ⟨⟨by omega, by omega⟩, ?_⟩
      rw [hR, rcL_map]
      rfl
    · have hR := skew_rc' x t hl
      simp [hoa, hob, hta, htb]
      refine L.use ?_
      simp [oC, rc_eq t, e0, n1]
      refine (rLess_ok _ _ _ _ _).use ?_
      simp [hl, wide2, w1, hs, hnw]
      refine ⟨⟨by omega, by omega⟩, ?_⟩
      rw [hR, rcL_map]
      rfl
end Go.Proofs.YtbekdlgkoleblaaDoor
