/- A region, walked without its edges, where a variable hides it. -/
import Derived.Test.YtbekdlgkoleblaaDoorL5b
namespace Go.Proofs.YtbekdlgkoleblaaDoor
theorem pwp_region_bare {P : Program} {imm : TypeId → Bool} {nt : Nat} {id : Nat} {ops ops' : Array Oper} {draw : Bool} {Q : PX → PS → Prop} {s : PS} (hi : imm (1000000 + id) = false) (he : ops.map bare = ops') (h : pops P imm nt ops' ops'.toList s (Q .norm)) : pwp P imm nt (.region id ops draw) Q s := by
  rw [pwp_region, if_neg (by rw [hi]; decide)]
  exact pops_of_bare he h
theorem pops_append {P : Program} {imm : TypeId → Bool} {nt : Nat} {ops : Array Oper} {K : PS → Prop} : ∀ (a b : List Oper) (s : PS), pops P imm nt ops (a ++ b) s K = pops P imm nt ops a s fun s' => pops P imm nt ops b s' K
  | [], b, s => rfl
  | o :: a, b, s => by
    show pone P imm nt ops o s (fun s' => pops P imm nt ops (a ++ b) s' K) = pone P imm nt ops o s fun s' => pops P imm nt ops a s' fun s'' => pops P imm nt ops b s'' K
    congr 1
    funext s'
    exact pops_append a b s'
/-- Of a region the first operations: what is behind them waits. -/
theorem pops_chunk {P : Program} {imm : TypeId → Bool} {nt : Nat} {ops : Array Oper} {l : List Oper} {s : PS} {K : PS → Prop} (n : Nat) (h : ∀ K2 : PS → Prop, (∀ s', pops P imm nt ops (l.drop n) s' K → K2 s') → pops P imm nt ops (l.take n) s K2) : pops P imm nt ops l s K := by
  have := h (fun s' => pops P imm nt ops (l.drop n) s' K) fun _ h => h
  rw [← List.take_append_drop n l, pops_append]
  exact this
end Go.Proofs.YtbekdlgkoleblaaDoor
