/- The chapter's example. -/
import Derived.Test.YtgbcjpdhmjikgaaDoorO2
namespace Go.Proofs.YtgbcjpdhmjikgaaDoor

def exT : LT := .node 1 0 (.node 2 0 .nil .nil) (.node 3 0 .nil .nil)

theorem ofK_ex (m : Option Nat) (gl : Nat → Int × Int) : ofK m gl [(2, 0), (1, 0), (3, 0)] = (exT, tick m 2 5 gl) := by
  simp [ofK, LT.ins, meld_node, meld_nil, meld_nil', LT.mk, LT.rk, ltI, tick_tick, exT]

theorem exT_text : exT.text = [40, 49, 58, 48, 32, 40, 50, 58, 48, 32, 46, 32, 46, 41, 32, 40, 51, 58, 48, 32, 46, 32, 46, 41, 41] := by
  simp [exT, LT.text, txt, Lib.itoa, Lib.decDigits]

set_option maxRecDepth 4000 in
set_option maxHeartbeats 4000000 in
theorem awake_ok (gl : Nat → Int × Int) : PCalls Tryd.prog 14 [] gl fun r _ => r = .pv (.bool true) := by
  refine pcalls_of_pwp noImm Tryd.func14 rfl (by simp) mixed (by kernel_rfl) fun gn => ?_
  simp
  refine (new_ok _).use ?_
  simp
  refine (of_ok (some gn) [(2, 0), (1, 0), (3, 0)] (by simp) _).use ?_
  rw [ofK_ex]
  simp [LT.pv]
  refine (mSteps_ok (some gn) _).use ?_
  simp [steps, tick, wr]
  refine (min_ok exT (some gn) _).use ?_
  simp [exT, eP]
  refine (pop_ok (some gn) exT (by simp [exT, LT.sz]) _).use ?_
  rw [show exT.pop = (.node 2 0 (.node 3 0 .nil .nil) .nil, 1) from by simp [exT, LT.pop, meld_node, meld_nil, LT.mk, LT.rk, ltI]]
  simp [exT, LT.some?, LT.pv, tick]
  refine (min_ok (.node 2 0 (.node 3 0 .nil .nil) .nil) (some gn) _).use ?_
  simp [eP]
  refine (pop_ok (some gn) .nil (by simp [LT.sz]) _).use ?_
  simp [LT.pop, LT.some?, LT.pv]
  refine (show_ok exT _ (by simp [exT, LT.ok, inI]) (by simp [exT, LT.sz])).use ?_
  rw [exT_text]
  simp
  refine (size_ok exT _).use ?_
  simp [exT, LT.sz]
  refine (size_ok (.node 2 0 (.node 3 0 .nil .nil) .nil) _).use ?_
  simp [LT.sz]
end Go.Proofs.YtgbcjpdhmjikgaaDoor
