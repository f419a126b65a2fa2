/- Trees with ranks: their values; made, ahead, rank, root, size, all. -/
import Derived.Test.YtbekdlgkoleblaaDoorM2
namespace Go.Proofs.YtbekdlgkoleblaaDoor
set_option linter.unusedSimpArgs false
set_option linter.unusedVariables false

abbrev El := Int × Int
/-- An element's cells. -/
def eC (x : El) : List PV := [.int .i64 x.1, .int .i64 x.2]
theorem wide2 (l : List El) : Wide 2 (l.map eC) := by
  intro x hx
  obtain ⟨a, _, rfl⟩ := List.mem_map.1 hx
  rfl

/-- A tree: its rank, its root, what stands beside it, the trees below it. -/
inductive RT
  | node (rank : Int) (x : El) (beside : List El) (kids : List RT)

mutual
def RT.sz : RT → Nat
  | .node _ _ b kids => 1 + b.length + RT.szL kids
def RT.szL : List RT → Nat
  | [] => 0
  | k :: l => k.sz + RT.szL l
end
mutual
/-- A tree's pointer. -/
def RT.pt : RT → PV
  | .node rank x b kids => .ref [.int .i64 rank, .int .i64 x.1, .int .i64 x.2, .list (b.map eC), .list (RT.ptL kids), .int .i64 ((RT.node rank x b kids).sz : Int)] 0
def RT.ptL : List RT → List (List PV)
  | [] => []
  | k :: l => [k.pt] :: RT.ptL l
end
def RT.rank : RT → Int | .node r _ _ _ => r
def RT.x : RT → El | .node _ x _ _ => x
def RT.beside : RT → List El | .node _ _ b _ => b
def RT.kids : RT → List RT | .node _ _ _ k => k
theorem pt_eq (t : RT) : t.pt = .ref [.int .i64 t.rank, .int .i64 t.x.1, .int .i64 t.x.2, .list (t.beside.map eC), .list (RT.ptL t.kids), .int .i64 (t.sz : Int)] 0 := by
  cases t; simp only [RT.pt, RT.rank, RT.x, RT.beside, RT.kids]
theorem sz_eq (t : RT) : t.sz = 1 + t.beside.length + RT.szL t.kids := by
  cases t; simp only [RT.sz, RT.beside, RT.kids]
theorem ptL_len : ∀ l : List RT, (RT.ptL l).length = l.length
  | [] => rfl
  | k :: l => by simp [RT.ptL, ptL_len l]
theorem ptL_get : ∀ (l : List RT) (i : Nat) (h : i < l.length), (RT.ptL l)[i]'(by rw [ptL_len]; exact h) = [l[i].pt]
  | k :: l, 0, _ => rfl
  | k :: l, i + 1, h => by simpa [RT.ptL] using ptL_get l i (by simpa using h)
theorem ptL_map : ∀ l : List RT, RT.ptL l = l.map fun k => [k.pt]
  | [] => rfl
  | k :: l => by simp [RT.ptL, ptL_map l]
theorem szL_take : ∀ (l : List RT) (i : Nat) (h : i < l.length), RT.szL (l.take (i + 1)) = RT.szL (l.take i) + l[i].sz
  | k :: l, 0, _ => by simp [RT.szL]
  | k :: l, i + 1, h => by
    have := szL_take l i (by simpa using h)
    simp only [List.take_succ_cons, RT.szL, List.getElem_cons_succ]
    omega
theorem szL_le : ∀ (l : List RT) (i : Nat), RT.szL (l.take i) ≤ RT.szL l
  | [], i => by simp [RT.szL]
  | k :: l, 0 => by simp [RT.szL]
  | k :: l, i + 1 => by have := szL_le l i; simp only [List.take_succ_cons, RT.szL]; omega
theorem szL_len : ∀ l : List RT, l.length ≤ RT.szL l
  | [] => Nat.le_refl _
  | k :: l => by have := szL_len l; have := sz_eq k; simp only [RT.szL, List.length_cons]; omega
theorem wideK (l : List RT) : Wide 1 (l.map fun k => [k.pt]) := by
  intro x hx
  obtain ⟨a, _, rfl⟩ := List.mem_map.1 hx
  rfl

/-- No tree, or one. -/
def oP : Option RT → PV
  | none => .nilp
  | some t => t.pt

theorem rSize_ok (t : Option RT) (gl : Nat → Int × Int) : PCalls Tryd.prog 16 [.pv (oP t)] gl fun r gl' => r = .pv (.int .i64 (match t with | none => 0 | some t => (t.sz : Int))) ∧ gl' = gl := by
  refine pcalls_of_pwp noImm Tryd.func16 rfl (by simp) mixed (by kernel_rfl) fun gn => ?_
  cases t with
  | none => simp [oP]
  | some t => simp [oP, pt_eq]
theorem rRank_ok (t : Option RT) (gl : Nat → Int × Int) : PCalls Tryd.prog 14 [.pv (oP t)] gl fun r gl' => r = .pv (.int .i64 (match t with | none => -1 | some t => t.rank)) ∧ gl' = gl := by
  refine pcalls_of_pwp noImm Tryd.func14 rfl (by simp) mixed (by kernel_rfl) fun gn => ?_
  cases t with
  | none => simp [oP]
  | some t => simp [oP, pt_eq]
theorem rRoot_ok (t : Option RT) (gl : Nat → Int × Int) : PCalls Tryd.prog 12 [.pv (oP t)] gl fun r gl' => r = .tup [.pv (.agg (eC (match t with | none => (0, 0) | some t => t.x))), .pv (.bool t.isSome)] ∧ gl' = gl := by
  refine pcalls_of_pwp noImm Tryd.func12 rfl (by simp) mixed (by kernel_rfl) fun gn => ?_
  cases t with
  | none => simp [oP, eC]
  | some t => simp [oP, pt_eq, eC]

theorem aheadE_ok (x : El) (l : List El) (hl : l.length ≤ 1000000) (gl : Nat → Int × Int) : PCalls Tryd.prog 35 [.pv (.agg [.int .i64 x.1, .int .i64 x.2]), .pv (.list (l.map eC))] gl fun r gl' => r = .fresh ((x :: l).map eC) ∧ gl' = gl := by
  have w1 : Wide 2 [[PV.int IntKind.i64 x.1, PV.int IntKind.i64 x.2]] := fun y hy => by rw [List.mem_singleton.1 hy]; rfl
  refine pcalls_of_pwp noImm Tryd.func35 rfl (by simp) mixed (by kernel_rfl) fun gn => ?_
  simp [wide2, w1]
  exact ⟨⟨by omega, by omega⟩, rfl⟩

theorem aheadT_ok (t : RT) (l : List RT) (hl : l.length ≤ 1000000) (gl : Nat → Int × Int) : PCalls Tryd.prog 36 [.pv t.pt, .pv (.list (l.map fun k => [k.pt]))] gl fun r gl' => r = .fresh ((t :: l).map fun k => [k.pt]) ∧ gl' = gl := by
  have w1 : ∀ p : PV, Wide 1 [[p]] := fun p y hy => by rw [List.mem_singleton.1 hy]; rfl
  refine pcalls_of_pwp noImm Tryd.func36 rfl (by simp) mixed (by kernel_rfl) fun gn => ?_
  simp [wideK, w1, pt_eq t]
  omega

set_option maxHeartbeats 2000000 in
theorem rMade_ok (m : Option Nat) (rank : Int) (x : El) (b : List El) (kids : List RT) (h : (RT.node rank x b kids).sz ≤ 1000000) (gl : Nat → Int × Int) : PCalls Tryd.prog 33 [mv m, .pv (.agg [.int .i64 rank, .int .i64 x.1, .int .i64 x.2, .list (b.map eC), .list (kids.map fun k => [k.pt]), .int .i64 0])] gl fun r gl' => r = .pv (RT.node rank x b kids).pt ∧ gl' = tick m 0 1 gl := by
  simp only [RT.sz] at h
  have hkl := szL_len kids
  refine pcalls_of_pwp noImm Tryd.func33 rfl (by simp) mixed (by kernel_rfl) fun gn => ?_
  simp
  refine (mMade_ok m 1 _).use ?_
  have h0 : IntKind.i64.wrap (1 + (b.length : Int)) = 1 + b.length := wr _ (by omega) (by omega)
  simp [h0]
  refine pwp_loopS (α := Nat) (fun k => k ≤ kids.length) (fun k => [(3, .loc 3 0), (15, .pv (.list (kids.map fun k => [k.pt]))), (16, .pv (.int .i64 kids.length)), (17, .pv (.int .i64 k))])
    (fun k => [(3, [.int .i64 rank, .int .i64 x.1, .int .i64 x.2, .list (b.map eC), .list (kids.map fun k => [k.pt]), .int .i64 (1 + (b.length : Int) + (RT.szL (kids.take k) : Nat))])]) (fun _ => tick m 0 1 gl) (fun _ => gn) (fun k => kids.length - k) 0 (by simp) (by simp [RT.szL, show max (1 : Int) 0 = 1 from rfl]) ?_
  rintro k hk
  have hle := szL_le kids k
  by_cases hlt : k < kids.length
  · have hle2 := szL_le kids (k + 1)
    have ht := szL_take kids k hlt
    have h1 : IntKind.i64.wrap (1 + (b.length : Int) + (RT.szL (kids.take k) : Nat) + (kids[k].sz : Int)) = 1 + (b.length : Int) + (RT.szL (kids.take (k + 1)) : Nat) := by rw [wr _ (by omega) (by omega)]; omega
    simp [hlt, wideK, pt_eq kids[k], h1]
    exact ⟨k + 1, hlt, by omega, wr _ (by omega) (by omega), rfl⟩
  · simp [hlt, RT.pt, RT.sz]
    rw [List.take_of_length_le (by omega)]
    exact ⟨(ptL_map kids).symm, rfl⟩

end Go.Proofs.YtbekdlgkoleblaaDoor
