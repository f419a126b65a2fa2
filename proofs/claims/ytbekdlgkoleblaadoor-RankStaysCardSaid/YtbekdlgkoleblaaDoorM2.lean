/- The order of elements; the meters' methods. -/
import Derived.Test.YtbekdlgkoleblaaDoorM1
namespace Go.Proofs.YtbekdlgkoleblaaDoor

def eP (p i : Int) : PV := .agg [.int .i64 p, .int .i64 i]
def ltI (p i q j : Int) : Bool := decide (p < q) || (decide (p = q) && decide (i < j))
def cmpI (x y : Int) : Int := if x < y then -1 else if y < x then 1 else 0

theorem isNaN_ok (x : Int) (gl : Nat → Int × Int) : PCalls Tryd.prog 62 [.pv (.int .i64 x)] gl fun r gl' => r = .pv (.bool false) ∧ gl' = gl := by
  refine pcalls_of_pwp noImm Tryd.func62 rfl (by simp) mixed (by kernel_rfl) fun gn => ?_
  simp

theorem cmpCompare_ok (x y : Int) (gl : Nat → Int × Int) : PCalls Tryd.prog 58 [.pv (.int .i64 x), .pv (.int .i64 y)] gl fun r gl' => r = .pv (.int .i64 (cmpI x y)) ∧ gl' = gl := by
  refine pcalls_of_pwp noImm Tryd.func58 rfl (by simp) mixed (by kernel_rfl) fun gn => ?_
  simp
  refine (isNaN_ok _ _).use ?_
  simp
  refine (isNaN_ok _ _).use ?_
  simp
  unfold cmpI
  split
  · rfl
  · split <;> rfl

/-- The first of some numbers that isn't 0. -/
def firstNZ : List Int → Int
  | [] => 0
  | x :: l => if x = 0 then firstNZ l else x

theorem cmpOr_ok (xs : List Int) (gl : Nat → Int × Int) (hs : xs.length ≤ 1000000) : PCalls Tryd.prog 57 [.pv (.list (xs.map fun n => [.int .i64 n]))] gl fun r gl' => r = .pv (.int .i64 (firstNZ xs)) ∧ gl' = gl := by
  refine pcalls_of_pwp noImm Tryd.func57 rfl (by simp) mixed (by kernel_rfl) fun gn => ?_
  simp
  refine pwp_loopS (α := Nat) (fun k => k ≤ xs.length ∧ firstNZ xs = firstNZ (xs.drop k)) (fun k => [(3, .pv (.int .i64 0)), (6, .pv (.list (xs.map fun n => [.int .i64 n]))), (7, .pv (.int .i64 xs.length)), (8, .pv (.int .i64 k))]) (fun _ => []) (fun _ => gl) (fun _ => gn) (fun k => xs.length - k) 0 (by simp) (by simp) ?_
  rintro k ⟨hk, he⟩
  by_cases hlt : k < xs.length
  · rw [List.drop_eq_getElem_cons hlt] at he
    simp [hlt, Wide]
    split
    · rename_i h0
      refine ⟨k + 1, ⟨by omega, ?_⟩, by omega, ?_⟩
      · rw [he, firstNZ, if_pos h0]
      · rw [wr _ (by omega) (by omega)]; rfl
    · rename_i h0
      rw [he, firstNZ, if_neg h0]
  · simp [hlt]
    rw [he, List.drop_eq_nil_of_le (by omega)]; rfl

theorem elemCompare_ok (p i q j : Int) (gl : Nat → Int × Int) : PCalls Tryd.prog 50 [.pv (eP p i), .pv (eP q j)] gl fun r gl' => r = .pv (.int .i64 (firstNZ [cmpI p q, cmpI i j])) ∧ gl' = gl := by
  refine pcalls_of_pwp noImm Tryd.func50 rfl (by simp) mixed (by kernel_rfl) fun gn => ?_
  simp [eP, pairEq]
  split
  · rename_i h
    obtain ⟨rfl, rfl⟩ := h
    simp [firstNZ, cmpI]
  · refine (cmpCompare_ok _ _ _).use ?_
    simp
    refine (cmpCompare_ok _ _ _).use ?_
    simp
    refine (cmpOr_ok [cmpI p q, cmpI i j] gl (by simp)).use ?_
    simp

theorem firstNZ_lt (p i q j : Int) : decide (firstNZ [cmpI p q, cmpI i j] < 0) = ltI p i q j := by
  simp only [firstNZ, cmpI, ltI]
  repeat' split
  all_goals (simp <;> omega)

theorem elemLess_ok (p i q j : Int) (gl : Nat → Int × Int) : PCalls Tryd.prog 39 [.pv (eP p i), .pv (eP q j)] gl fun r gl' => r = .pv (.bool (ltI p i q j)) ∧ gl' = gl := by
  refine pcalls_of_pwp noImm Tryd.func39 rfl (by simp) mixed (by kernel_rfl) fun gn => ?_
  simp [eP]
  refine (elemCompare_ok p i q j gl).use ?_
  simp [← firstNZ_lt]

/-! ### The meter -/
theorem mLess_ok (m : Option Nat) (p i q j : Int) (gl : Nat → Int × Int) : PCalls Tryd.prog 34 [mv m, .pv (eP p i), .pv (eP q j)] gl fun r gl' => r = .pv (.bool (ltI p i q j)) ∧ gl' = tick m 1 0 gl := by
  refine pcalls_of_pwp noImm Tryd.func34 rfl (by simp) mixed (by kernel_rfl) fun gn => ?_
  cases m with
  | none =>
    simp [eP, mv]
    refine (elemLess_ok p i q j gl).use ?_
    simp [tick]
  | some k =>
    simp [eP, mv]
    refine (add0_ok k 1 gl).use ?_
    simp
    refine (elemLess_ok p i q j _).use ?_
    simp [tick]

theorem mMade_ok (m : Option Nat) (n : Int) (gl : Nat → Int × Int) : PCalls Tryd.prog 48 [mv m, .pv (.int .i64 n)] gl fun r gl' => r = .tup [] ∧ gl' = tick m 0 (max n 0) gl := by
  refine pcalls_of_pwp noImm Tryd.func48 rfl (by simp) mixed (by kernel_rfl) fun gn => ?_
  cases m with
  | none => simp [mv, tick]
  | some k =>
    simp [mv]
    refine (add1_ok k _ gl).use ?_
    simp [tick]
    congr 2
    split <;> omega

theorem mSplit_ok (m : Option Nat) (gl : Nat → Int × Int) : PCalls Tryd.prog 42 [mv m] gl fun r gl' => r = (match m with
    | none => .tup [.pv (.int .i64 0), .pv (.int .i64 0)]
    | some k => .tup [.pv (.int .i64 (IntKind.i64.wrap (gl k).1)), .pv (.int .i64 (IntKind.i64.wrap (gl k).2))]) ∧ gl' = gl := by
  refine pcalls_of_pwp noImm Tryd.func42 rfl (by simp) mixed (by kernel_rfl) fun gn => ?_
  cases m with
  | none => simp [mv]
  | some k =>
    simp [mv]
    refine (load0_ok k gl).use ?_
    simp
    refine (load1_ok k gl).use ?_
    simp

/-- How many steps a meter tells. -/
def steps (m : Option Nat) (gl : Nat → Int × Int) : Int := match m with
  | none => 0
  | some k => IntKind.i64.wrap ((gl k).1 + (gl k).2)

theorem wr_add_wr (n m : Int) : IntKind.i64.wrap (IntKind.i64.wrap n + IntKind.i64.wrap m) = IntKind.i64.wrap (n + m) := by
  rw [wr_wr_add, Int.add_comm, wr_wr_add, Int.add_comm]

theorem mSteps_ok (m : Option Nat) (gl : Nat → Int × Int) : PCalls Tryd.prog 25 [mv m] gl fun r gl' => r = .pv (.int .i64 (steps m gl)) ∧ gl' = gl := by
  refine pcalls_of_pwp noImm Tryd.func25 rfl (by simp) mixed (by kernel_rfl) fun gn => ?_
  cases m with
  | none =>
    simp [mv]
    refine (mSplit_ok none gl).use ?_
    simp [steps, wr]
  | some k =>
    simp [mv]
    refine (mSplit_ok (some k) gl).use ?_
    simp [steps, wr_add_wr]


end Go.Proofs.YtbekdlgkoleblaaDoor
