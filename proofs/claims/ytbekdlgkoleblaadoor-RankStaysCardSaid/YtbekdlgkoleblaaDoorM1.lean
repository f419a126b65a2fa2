/- The meters, of this program. -/
import Derived.Test.YtbekdlgkoleblaaDoorFacts
import Derived.Test.YtbekdlgkoleblaaDoorEngQ
import Derived.WalkKit
import Derived.WalkSpells
import Derived.Laws.LoneSync
namespace Go.Proofs.YtbekdlgkoleblaaDoor
open Go.RowKit
set_option maxHeartbeats 400000 in
theorem add_raw (b off : Nat) (c n : Int) (w : World) (hc : w.cell? ⟨b, off, none⟩ = some (.int .i64 c)) (hf : w.frozen? ⟨b, off, none⟩ = false) :
    Calls Tryd.prog 49 #[.pointer (some ⟨b, off, none⟩), .int .i64 n] w fun e w' => e = .returned (.int .i64 (IntKind.i64.wrap (c + n))) ∧ w' = w.setCell ⟨b, off, none⟩ (.int .i64 (IntKind.i64.wrap (c + n))) := by
  have hadd := run_call_add (P := Tryd.prog) (f := 56) Tryd.func56 (by kernel_rfl) (by kernel_rfl) (by kernel_rfl) .i64 (by kernel_rfl) hc hf (y := n) (s := IntKind.i64.wrap (c + n)) (by simp [Op.intArith])
  generalize IntKind.i64.wrap (c + n) = r at hadd ⊢
  go_enter Tryd.func49, Tryd.ntmps49
  go_wp2
  go_ret
  exact ⟨rfl, rfl⟩
set_option maxHeartbeats 400000 in
theorem load_raw (b off : Nat) (c : Int) (w : World) (hc : w.cell? ⟨b, off, none⟩ = some (.int .i64 c)) :
    Calls Tryd.prog 52 #[.pointer (some ⟨b, off, none⟩)] w fun e w' => e = .returned (.int .i64 c) ∧ w' = w := by
  have hl := run_call_load (P := Tryd.prog) (f := 59) Tryd.func59 (by kernel_rfl) (by kernel_rfl) (by kernel_rfl) .i64 (by kernel_rfl) hc
  go_enter Tryd.func52, Tryd.ntmps52
  go_wp2
  go_ret
  exact ⟨rfl, rfl⟩
set_option maxHeartbeats 400000 in
theorem new_raw (w : World) :
    Calls Tryd.prog 21 #[] w fun e w' => e = .returned (.pointer (some ⟨w.heap.size, 0, none⟩)) ∧ w' = w.alloc (.cells #[.int .i64 0, .int .i64 0] 77) := by
  go_enter Tryd.func21, Tryd.ntmps21
  go_wp2
  go_ret
  exact ⟨rfl, rfl⟩

theorem new_ok (gl : Nat → Int × Int) : PCalls Tryd.prog 21 [] gl fun r gl' => r = .newm 0 0 ∧ gl' = gl := meter_new new_raw gl
theorem add0_ok (k : Nat) (n : Int) (gl : Nat → Int × Int) : PCalls Tryd.prog 49 [.mtr k 0, .pv (.int .i64 n)] gl fun r gl' => r = .pv (.int .i64 (IntKind.i64.wrap ((gl k).1 + n))) ∧ gl' = upd gl k ((gl k).1 + n, (gl k).2) := (meter_add add_raw k n gl).1
theorem add1_ok (k : Nat) (n : Int) (gl : Nat → Int × Int) : PCalls Tryd.prog 49 [.mtr k 1, .pv (.int .i64 n)] gl fun r gl' => r = .pv (.int .i64 (IntKind.i64.wrap ((gl k).2 + n))) ∧ gl' = upd gl k ((gl k).1, (gl k).2 + n) := (meter_add add_raw k n gl).2
theorem load0_ok (k : Nat) (gl : Nat → Int × Int) : PCalls Tryd.prog 52 [.mtr k 0] gl fun r gl' => r = .pv (.int .i64 (IntKind.i64.wrap (gl k).1)) ∧ gl' = gl := (meter_load load_raw k gl).1
theorem load1_ok (k : Nat) (gl : Nat → Int × Int) : PCalls Tryd.prog 52 [.mtr k 1] gl fun r gl' => r = .pv (.int .i64 (IntKind.i64.wrap (gl k).2)) ∧ gl' = gl := (meter_load load_raw k gl).2

def noImm : TypeId → Bool := fun _ => false
@[simp] theorem noImm_eq (t : TypeId) : noImm t = false := rfl

theorem pairEq : PairEq Tryd.prog 29 := by
  intro w x y a b c d
  constructor <;> simp [go_sem] <;> by_cases h1 : a = c <;> by_cases h2 : b = d <;> simp [h1, h2]

end Go.Proofs.YtbekdlgkoleblaaDoor
