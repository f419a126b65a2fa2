/- The table of a package variable of Go's library, that a call may read: what a world must hold at its foot. -/
import Derived.Test.YtbekdlgkoleblaaDoorProg
import Derived.Lib.LaidTab
import Derived.Shelf.Strconv.Itoa4
import Derived.KernelRfl
namespace Go.Proofs.YtbekdlgkoleblaaDoor

def tabN : Nat := 1
def TabHolds (w : World) : Prop := Lib.TabIs Tryd.prog w "internal/strconv.uint64pow10" .u64 Lib.pow10Tab

theorem tabNamed : Tryd.prog.globalNamed "internal/strconv.uint64pow10" = some 0 := by kernel_rfl
theorem tabHolds_of {w w' : World} (h : ∀ b, b < tabN → w'.heap[b]? = w.heap[b]?) (ht : TabHolds w) : TabHolds w' := by
  unfold TabHolds Lib.TabIs World.var? at *
  rw [tabNamed] at *
  simp only [Option.bind_some] at *
  rw [h 0 (by decide)]
  exact ht
theorem tabHolds_size {w : World} (ht : TabHolds w) : tabN ≤ w.heap.size := by
  unfold TabHolds Lib.TabIs World.var? at ht
  rw [tabNamed] at ht
  simp only [Option.bind_some] at ht
  split at ht
  · rename_i h
    have := (Array.getElem?_eq_some_iff.1 h).1
    exact this
  · cases ht

end Go.Proofs.YtbekdlgkoleblaaDoor
