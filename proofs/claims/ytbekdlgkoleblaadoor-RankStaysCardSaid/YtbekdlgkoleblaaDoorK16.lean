/- The chapter's example. -/
import Derived.Test.YtbekdlgkoleblaaDoorK15
namespace Go.Proofs.YtbekdlgkoleblaaDoor
set_option linter.unusedSimpArgs false
set_option linter.unusedVariables false

theorem tick_tick (m : Option Nat) (a b c d : Int) (gl : Nat → Int × Int) : tick m a b (tick m c d gl) = tick m (c + a) (d + b) gl := by
  cases m with
  | none => rfl
  | some k =>
    funext t
    simp [tick, upd_apply]
    split
    · simp; omega
    · rfl

def exA : RT := .node 0 (2, 0) [] []
def exB : RT := .node 0 (1, 0) [] []
def exT : RT := .node 1 (1, 0) [] [exA]
def exS : RT := .node 1 (1, 0) [(3, 0)] [exA]
theorem ex_link : oLink (some exA) (some exB) = (some exT, 2) := by
  simp [oLink, RT.link, exA, exB, exT, RT.x, ltI, RT.rank, RT.beside, RT.kids]
theorem ex_skew : oSkew (3, 0) (some exA) (some exB) = (exS, 4) := by
  simp [oSkew, ex_link, RT.skew, exT, exS, RT.x, ltI, RT.rank, RT.beside, RT.kids]
theorem exA_sz : exA.sz = 1 := by simp [exA, RT.sz, RT.szL]
theorem exB_sz : exB.sz = 1 := by simp [exB, RT.sz, RT.szL]
theorem exT_sz : exT.sz = 2 := by simp [exT, RT.sz, RT.szL, exA_sz]
theorem exS_sz : exS.sz = 3 := by simp [exS, RT.sz, RT.szL, exA_sz]
theorem exT_text : exT.text = [40, 49, 58, 48, 32, 40, 50, 58, 48, 41, 41] := by
  simp [exT, exA, RT.text, RT.textL, besT, txt, Lib.itoa, Lib.decDigits]
theorem exS_text : exS.text = [40, 49, 58, 48, 32, 43, 51, 58, 48, 32, 40, 50, 58, 48, 41, 41] := by
  simp [exS, exA, RT.text, RT.textL, besT, txt, Lib.itoa, Lib.decDigits]
theorem exT_ok : exT.ok := by
  intro y hy
  simp [exT, exA, RT.all, RT.allL] at hy
  rcases hy with rfl | rfl <;> simp [okE, inI]
theorem exS_ok : exS.ok := by
  intro y hy
  simp [exS, exA, RT.all, RT.allL] at hy
  rcases hy with rfl | rfl | rfl <;> simp [okE, inI]
theorem exS_len : exS.all.length = 3 := by rw [all_len, exS_sz]
theorem exT_right : exT.right = true := by simp [exT, exA, RT.right, RT.rightL, RT.rank, RT.x, ltI]

set_option maxRecDepth 4000 in
set_option maxHeartbeats 8000000 in
theorem awake_ok (gl : Nat → Int × Int) : PCalls Tryd.prog 8 [] gl fun r _ => r = .pv (.bool true) := by
  refine pcalls_of_pwp noImm Tryd.func8 rfl (by simp) mixed (by kernel_rfl) fun gn => ?_
  simp
  refine (new_ok _).use ?_
  simp
  refine (rLeaf_ok (some gn) (2, 0) _).use ?_
  rw [show RT.leaf (2, 0) = exA from rfl]
  simp
  refine (rLeaf_ok (some gn) (1, 0) _).use ?_
  rw [show RT.leaf (1, 0) = exB from rfl]
  simp
  have hA : ∀ u, some exA = some u → u.sz ≤ 100000 ∧ -1000000 ≤ u.rank ∧ u.rank ≤ 1000000 := by rintro u ⟨rfl⟩; rw [exA_sz]; simp [exA, RT.rank]
  have hB : ∀ u, some exB = some u → u.sz ≤ 100000 ∧ -1000000 ≤ u.rank ∧ u.rank ≤ 1000000 := by rintro u ⟨rfl⟩; rw [exB_sz]; simp [exB, RT.rank]
  refine (rLink_ok (some gn) (some exA) (some exB) hA hB _).use ?_
  rw [ex_link]
  simp [oP, linkTick, tick_tick]
  refine (rSkew_ok (some gn) (3, 0) (some exA) (some exB) hA hB (by rw [ex_link]; rintro u ⟨rfl⟩; rw [exT_sz]; omega) _).use ?_
  rw [ex_skew]
  simp [skewTick, linkTick, tick_tick]
  refine (rRoot_ok (some exT) _).use ?_
  simp [eC]
  refine (rShow_ok (some exT) (by rintro u ⟨rfl⟩; rw [exT_sz]; exact ⟨by omega, exT_ok⟩) _).use ?_
  simp [oText, exT_text]
  refine (rShow_ok (some exS) (by rintro u ⟨rfl⟩; rw [exS_sz]; exact ⟨by omega, exS_ok⟩) _).use ?_
  simp [oText, exS_text, show exT.x = (1, 0) from rfl]
  refine (rRank_ok (some exT) _).use ?_
  simp [show exT.rank = 1 from rfl]
  refine (rSize_ok (some exS) _).use ?_
  simp [exS_sz]
  refine (mSteps_ok (some gn) _).use ?_
  simp [steps, tick, wr]
  refine (rRight_ok (some exT) (by rintro u ⟨rfl⟩; rw [exT_sz]; omega) _).use ?_
  simp [oRight, exT_right]
  refine (rAll_ok (some exS) (by rintro u ⟨rfl⟩; rw [exS_sz]; omega) _).use ?_
  simp [exS_len]
end Go.Proofs.YtbekdlgkoleblaaDoor
