/- The leftist heap: its values, and what each function answers. -/
import Derived.Test.YtgbcjpdhmjikgaaDoorM2
namespace Go.Proofs.YtgbcjpdhmjikgaaDoor

/-- A heap: none, or a root and two. -/
inductive LT
  | nil
  | node (p i : Int) (l r : LT)

def LT.rk : LT → Nat
  | .nil => 0
  | .node _ _ _ r => r.rk + 1
def LT.sz : LT → Nat
  | .nil => 0
  | .node _ _ l r => 1 + l.sz + r.sz
/-- A node's pointer. -/
def LT.pt : LT → PV
  | .nil => .nilp
  | .node p i l r => .ref [.int .i64 p, .int .i64 i, l.pt, r.pt, .int .i64 ((LT.node p i l r).rk : Int), .int .i64 ((LT.node p i l r).sz : Int)] 0
/-- A heap's value. -/
def LT.pv (t : LT) : PV := .agg [t.pt]

def nodeImm : TypeId → Bool := fun t => t == 73
@[simp] theorem nodeImm_eq (t : TypeId) : nodeImm t = (t == 73) := rfl

theorem rank_ok (t : LT) (gl : Nat → Int × Int) : PCalls Tryd.prog 48 [.pv t.pv] gl fun r gl' => r = .pv (.int .i64 t.rk) ∧ gl' = gl := by
  refine pcalls_of_pwp noImm Tryd.func48 rfl (by simp) mixed (by kernel_rfl) fun gn => ?_
  cases t with
  | nil => simp [LT.pv, LT.pt, LT.rk]
  | node p i l r => simp [LT.pv, LT.pt, LT.rk]

theorem size_ok (t : LT) (gl : Nat → Int × Int) : PCalls Tryd.prog 21 [.pv t.pv] gl fun r gl' => r = .pv (.int .i64 t.sz) ∧ gl' = gl := by
  refine pcalls_of_pwp noImm Tryd.func21 rfl (by simp) mixed (by kernel_rfl) fun gn => ?_
  cases t with
  | nil => simp [LT.pv, LT.pt, LT.sz]
  | node p i l r => simp [LT.pv, LT.pt, LT.sz]


theorem min_ok (t : LT) (m : Option Nat) (gl : Nat → Int × Int) : PCalls Tryd.prog 28 [.pv t.pv, mv m] gl fun r gl' => r = (match t with
    | .nil => .tup [.pv (eP 0 0), .pv (.bool false)]
    | .node p i _ _ => .tup [.pv (eP p i), .pv (.bool true)]) ∧ gl' = gl := by
  refine pcalls_of_pwp noImm Tryd.func28 rfl (by simp) mixed (by kernel_rfl) fun gn => ?_
  cases t with
  | nil => simp [LT.pv, LT.pt, eP]
  | node p i l r => simp [LT.pv, LT.pt, eP]

theorem rk_le (t : LT) : t.rk ≤ t.sz := by
  induction t with
  | nil => simp [LT.rk]
  | node p i l r _ h => simp [LT.rk, LT.sz]; omega

/-- A root over two. -/
def LT.mk (p i : Int) (a b : LT) : LT := if a.rk < b.rk then .node p i b a else .node p i a b

theorem made_ok (m : Option Nat) (p i : Int) (a b : LT) (h : a.sz + b.sz ≤ 1000000) (gl : Nat → Int × Int) : PCalls Tryd.prog 40 [mv m, .pv (eP p i), .pv a.pv, .pv b.pv] gl fun r gl' => r = .pv (LT.mk p i a b).pv ∧ gl' = tick m 0 1 gl := by
  refine pcalls_of_pwp nodeImm Tryd.func40 rfl (by simp) mixed (by kernel_rfl) fun gn => ?_
  have h1 := rk_le a
  have h2 := rk_le b
  simp [eP, LT.pv]
  refine (mMade_ok m 1 _).use ?_
  simp
  refine (rank_ok a _).use ?_
  simp
  refine (rank_ok b _).use ?_
  simp
  by_cases hr : a.rk < b.rk
  · simp [hr]
    refine (rank_ok a _).use ?_
    simp
    refine (size_ok b _).use ?_
    simp
    refine (size_ok a _).use ?_
    simp [LT.mk, hr, LT.pt, LT.rk, LT.sz]
    refine ⟨⟨?_, ?_⟩, ?_⟩
    · exact wr _ (by omega) (by omega)
    · rw [wr (1 + _) (by omega) (by omega), wr _ (by omega) (by omega)]
    · rfl
  · simp [hr]
    refine (rank_ok b _).use ?_
    simp
    refine (size_ok a _).use ?_
    simp
    refine (size_ok b _).use ?_
    simp [LT.mk, hr, LT.pt, LT.rk, LT.sz]
    refine ⟨⟨?_, ?_⟩, ?_⟩
    · exact wr _ (by omega) (by omega)
    · rw [wr (1 + _) (by omega) (by omega), wr _ (by omega) (by omega)]
    · rfl

theorem mk_sz (p i : Int) (a b : LT) : (LT.mk p i a b).sz = 1 + a.sz + b.sz := by
  unfold LT.mk; split <;> simp [LT.sz]; omega

theorem tick_tick (m : Option Nat) (a b c d : Int) (gl : Nat → Int × Int) : tick m a b (tick m c d gl) = tick m (c + a) (d + b) gl := by
  cases m with
  | none => rfl
  | some k =>
    funext t
    simp [tick, upd_apply]
    split
    · simp; omega
    · rfl

/-- Two heaps melded, and how many nodes are made. -/
def LT.meld : LT → LT → LT × Nat
  | .nil, o => (o, 0)
  | h, .nil => (h, 0)
  | .node p i l r, .node q j l' r' =>
    if ltI q j p i then
      let x := LT.meld r' (.node p i l r)
      (LT.mk q j l' x.1, x.2 + 1)
    else
      let x := LT.meld r (.node q j l' r')
      (LT.mk p i l x.1, x.2 + 1)
termination_by a b => a.sz + b.sz
decreasing_by all_goals simp only [LT.sz]; omega

theorem meld_nil (t : LT) : LT.meld .nil t = (t, 0) := by unfold LT.meld; rfl
theorem meld_nil' (t : LT) : LT.meld t .nil = (t, 0) := by cases t <;> (unfold LT.meld; rfl)
theorem meld_node (p i : Int) (l r : LT) (q j : Int) (l' r' : LT) : LT.meld (.node p i l r) (.node q j l' r') = if ltI q j p i then (LT.mk q j l' (LT.meld r' (.node p i l r)).1, (LT.meld r' (.node p i l r)).2 + 1) else (LT.mk p i l (LT.meld r (.node q j l' r')).1, (LT.meld r (.node q j l' r')).2 + 1) := by
  rw [LT.meld]

theorem meld_sz : ∀ (n : Nat) (a b : LT), a.sz + b.sz ≤ n → (LT.meld a b).1.sz = a.sz + b.sz
  | n, .nil, b, _ => by simp [meld_nil, LT.sz]
  | n, .node p i l r, .nil, _ => by simp [meld_nil', LT.sz]
  | 0, .node p i l r, .node q j l' r', h => by simp [LT.sz] at h
  | n + 1, .node p i l r, .node q j l' r', h => by
    simp only [LT.sz] at h
    rw [meld_node]
    split
    · simp only [mk_sz]
      rw [meld_sz n _ _ (by simp only [LT.sz]; omega)]
      simp only [LT.sz]; omega
    · simp only [mk_sz]
      rw [meld_sz n _ _ (by simp only [LT.sz]; omega)]
      simp only [LT.sz]; omega

end Go.Proofs.YtgbcjpdhmjikgaaDoor
