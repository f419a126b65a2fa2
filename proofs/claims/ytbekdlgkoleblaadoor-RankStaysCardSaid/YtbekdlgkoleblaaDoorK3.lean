/- The document's trees with ranks: a leaf, linked, skew. -/
import Derived.Test.YtbekdlgkoleblaaDoorK2
namespace Go.Proofs.YtbekdlgkoleblaaDoor
set_option linter.unusedSimpArgs false
set_option linter.unusedVariables false

theorem rLess_ok (p i q j : Int) (gl : Nat → Int × Int) : PCalls Tryd.prog 19 [.pv (.agg [.int .i64 p, .int .i64 i]), .pv (.agg [.int .i64 q, .int .i64 j])] gl fun r gl' => r = .pv (.bool (ltI p i q j)) ∧ gl' = gl := by
  refine pcalls_of_pwp noImm Tryd.func19 rfl (by simp) mixed (by kernel_rfl) fun gn => ?_
  by_cases h : p < q
  · simp [ltI, h]
  · by_cases h' : p = q
    · subst h'; simp [ltI]
    · simp [ltI, h, h', beq_false_of_ne h']

mutual
/-- The document's tree, as cells. -/
def RT.rc : RT → List PV
  | .node rank x b kids => [.int .i64 rank, .int .i64 x.1, .int .i64 x.2, .list (b.map eC), .list (RT.rcL kids), .int .i64 ((RT.node rank x b kids).sz : Int)]
def RT.rcL : List RT → List (List PV)
  | [] => []
  | k :: l => k.rc :: RT.rcL l
end
theorem rc_eq (t : RT) : t.rc = [.int .i64 t.rank, .int .i64 t.x.1, .int .i64 t.x.2, .list (t.beside.map eC), .list (RT.rcL t.kids), .int .i64 (t.sz : Int)] := by
  cases t; simp only [RT.rc, RT.rank, RT.x, RT.beside, RT.kids]
theorem rcL_map : ∀ l : List RT, RT.rcL l = l.map RT.rc
  | [] => rfl
  | k :: l => by simp [RT.rcL, rcL_map l]
theorem rc_len (t : RT) : t.rc.length = 6 := by rw [rc_eq]; rfl
theorem wideR (l : List RT) : Wide 6 (l.map RT.rc) := by
  intro x hx
  obtain ⟨a, _, rfl⟩ := List.mem_map.1 hx
  exact rc_len a
/-- None, or a tree, as cells. -/
def oC : Option RT → List PV
  | none => [.int .i64 0, .int .i64 0, .int .i64 0, .list [], .list [], .int .i64 0]
  | some t => t.rc

/-- A thing alone. -/
def RT.leaf (x : El) : RT := .node 0 x [] []
/-- Two trees linked. -/
def RT.link (a b : RT) : RT := if ltI b.x.1 b.x.2 a.x.1 a.x.2 = true then .node (b.rank + 1) b.x b.beside (a :: b.kids) else .node (a.rank + 1) a.x a.beside (b :: a.kids)
def oLink : Option RT → Option RT → Option RT × Nat
  | none, b => (b, 0)
  | a, none => (a, 0)
  | some a, some b => (some (RT.link a b), 2)
theorem link_sz (a b : RT) : (RT.link a b).sz = a.sz + b.sz := by
  have ha := sz_eq a
  have hb := sz_eq b
  unfold RT.link
  split <;> (simp only [RT.sz, RT.szL]; omega)

theorem link_rc (a b : RT) (hl : ltI b.x.1 b.x.2 a.x.1 a.x.2 = true) : (RT.link a b).rc = [.int .i64 (b.rank + 1), .int .i64 b.x.1, .int .i64 b.x.2, .list (b.beside.map eC), .list (a.rc :: b.kids.map RT.rc), .int .i64 ((a.sz + b.sz : Nat) : Int)] := by
  have e : RT.link a b = .node (b.rank + 1) b.x b.beside (a :: b.kids) := if_pos hl
  rw [rc_eq, link_sz, e]
  show [PV.int .i64 (b.rank + 1), .int .i64 b.x.1, .int .i64 b.x.2, .list (b.beside.map eC), .list (RT.rcL (a :: b.kids)), .int .i64 ((a.sz + b.sz : Nat) : Int)] = _
  rw [RT.rcL, rcL_map]
theorem link_rc' (a b : RT) (hl : ¬ ltI b.x.1 b.x.2 a.x.1 a.x.2 = true) : (RT.link a b).rc = [.int .i64 (a.rank + 1), .int .i64 a.x.1, .int .i64 a.x.2, .list (a.beside.map eC), .list (b.rc :: a.kids.map RT.rc), .int .i64 ((a.sz + b.sz : Nat) : Int)] := by
  have e : RT.link a b = .node (a.rank + 1) a.x a.beside (b :: a.kids) := if_neg hl
  rw [rc_eq, link_sz, e]
  show [PV.int .i64 (a.rank + 1), .int .i64 a.x.1, .int .i64 a.x.2, .list (a.beside.map eC), .list (RT.rcL (b :: a.kids)), .int .i64 ((a.sz + b.sz : Nat) : Int)] = _
  rw [RT.rcL, rcL_map]

theorem refLeaf_ok (x : El) (gl : Nat → Int × Int) : PCalls Tryd.prog 22 [.pv (.agg [.int .i64 x.1, .int .i64 x.2])] gl fun r gl' => r = .pv (.agg (RT.leaf x).rc) ∧ gl' = gl := by
  refine pcalls_of_pwp noImm Tryd.func22 rfl (by simp) mixed (by kernel_rfl) fun gn => ?_
  simp [RT.leaf, RT.rc, RT.rcL, RT.sz, RT.szL]

set_option maxHeartbeats 4000000 in
set_option maxRecDepth 4000 in
theorem refLink_ok (a b : Option RT) (ha : ∀ u, a = some u → u.sz ≤ 100000 ∧ -1000000 ≤ u.rank ∧ u.rank ≤ 1000000) (hb : ∀ u, b = some u → u.sz ≤ 100000 ∧ -1000000 ≤ u.rank ∧ u.rank ≤ 1000000) (gl : Nat → Int × Int) : PCalls Tryd.prog 23 [.pv (.agg (oC a)), .pv (.agg (oC b))] gl fun r gl' => r = .tup [.pv (.agg (oC (oLink a b).1)), .pv (.int .i64 (oLink a b).2)] ∧ gl' = gl := by
  refine pcalls_of_pwp noImm Tryd.func23 rfl (by simp) mixed (by kernel_rfl) fun gn => ?_
  cases a with
  | none =>
    cases b with
    | none => simp [oC, oLink]
    | some b => simp [oC, oLink, rc_eq b]
  | some a =>
    have hz := sz_eq a
    have e0 : ((a.sz : Int) == 0) = false := beq_false_of_ne (by omega)
    cases b with
    | none => simp [oC, oLink, rc_eq a, e0]
    | some b =>
      have hzb := sz_eq b
      have e1 : ((b.sz : Int) == 0) = false := beq_false_of_ne (by omega)
      have ra := ha a rfl
      have rb := hb b rfl
      have hka := szL_len a.kids
      have hkb := szL_len b.kids
      have n1 : a.sz ≠ 0 := by omega
      have n2 : b.sz ≠ 0 := by omega
      simp [oC, oLink, rc_eq a, rc_eq b, e0, e1, n1, n2]
      refine (rLess_ok _ _ _ _ _).use ?_
      by_cases hl : ltI b.x.1 b.x.2 a.x.1 a.x.2 = true
      · simp [hl, rcL_map, wideR]
        have w : Wide 6 [a.rc] := fun y hy => by rw [List.mem_singleton.1 hy]; exact rc_len a
        rw [rc_eq a, rcL_map] at w
        refine ⟨⟨w, by omega, by omega⟩, ?_⟩
        rw [link_rc a b hl, rc_eq a, rcL_map, wr (b.rank + 1) (by omega) (by omega), wr _ (by omega) (by omega)]
        rfl
      · simp [hl, rcL_map, wideR]
        have w : Wide 6 [b.rc] := fun y hy => by rw [List.mem_singleton.1 hy]; exact rc_len b
        rw [rc_eq b, rcL_map] at w
        refine ⟨⟨w, by omega, by omega⟩, ?_⟩
        rw [link_rc' a b hl, rc_eq b, rcL_map, wr (a.rank + 1) (by omega) (by omega), wr _ (by omega) (by omega)]
        rfl
end Go.Proofs.YtbekdlgkoleblaaDoor
