/- Pure values, and what it is for a value in memory to read as one. Nothing here knows of a program. -/
import Derived.Calls
import Derived.Orders
import Derived.Tactics
import Derived.Below
import Derived.Laws.AppendOwn
import Derived.Laws.AppendOwnNone
import Derived.Laws.Small
import Derived.Laws.StructEq
import Derived.Laws.Strings
import Derived.Laws.Slices
import Derived.Laws.Pointers
import Derived.Laws.Cells
import Derived.Laws.BytesString
namespace Go.Proofs.YtbekdlgkoleblaaDoor

/-- Pure values: what is never written. -/
inductive PV where
  | bool (b : Bool)
  | int (k : IntKind) (n : Int)
  | str (l : List UInt8)
  | nilp
  | ref (cells : List PV) (off : Nat)
  | list (xs : List (List PV))
  | agg (cells : List PV)
  | refAt (b o : Nat) (cells : List PV) (off : Nat)
  | ifc (t : TypeId) (p : PV)
  | clo (f : FuncId) (caps : List PV)
  | any
  deriving Inhabited

/-- One cell. -/
def PV.scalar : PV → Bool
  | .agg _ => false
  | _ => true

/-- A value reads as a pure one: I b is up to where block b is never written. -/
inductive Rep (I : Nat → Nat) (w : World) : Value → PV → Prop
  | bool (b : Bool) : Rep I w (.bool b) (.bool b)
  | int (k : IntKind) (n : Int) : Rep I w (.int k n) (.int k n)
  | str (s : ByteArray) (l : List UInt8) (h : s.data.toList = l) : Rep I w (.string s) (.str l)
  | nilp : Rep I w (.pointer none) .nilp
  | ref (b o off : Nat) (cells : List PV) (vs : Nat → Value) (hs : ∀ c ∈ cells, c.scalar = true) (h1 : off ≤ o) (h2 : ∀ i, i < cells.length → o - off + i < I b)
      (h3 : ∀ i, i < cells.length → w.cell? ⟨b, o - off + i, none⟩ = some (vs i))
      (h4 : ∀ i (h : i < cells.length), Rep I w (vs i) cells[i]) : Rep I w (.pointer (some ⟨b, o, none⟩)) (.ref cells off)
  | nil : Rep I w (.slice none 0 0) (.list [])
  | empty (a : Addr) (cap : Nat) : Rep I w (.slice (some a) 0 cap) (.list [])
  | list (b o cap es : Nat) (xs : List (List PV)) (vs : Nat → Nat → Value) (hs : ∀ x ∈ xs, ∀ c ∈ x, c.scalar = true) (h0 : ∀ x ∈ xs, x.length = es) (h2 : ∀ i, i < xs.length * es → o + i < I b) (hcap : xs.length ≤ cap)
      (h3 : ∀ i j, i < xs.length → j < es → w.cell? ⟨b, o + (i * es + j), none⟩ = some (vs i j))
      (h4 : ∀ i (h : i < xs.length) j (h' : j < (xs[i]).length), Rep I w (vs i j) (xs[i])[j]) : Rep I w (.slice (some ⟨b, o, none⟩) xs.length cap) (.list xs)
  | agg (cs : Array Value) (cells : List PV) (hs : ∀ c ∈ cells, c.scalar = true) (h : cs.size = cells.length)
      (h4 : ∀ i (h : i < cells.length) (h' : i < cs.size), Rep I w cs[i] cells[i]) : Rep I w (.agg cs) (.agg cells)
  | refAt (b o off : Nat) (cells : List PV) (h : Rep I w (.pointer (some ⟨b, o, none⟩)) (.ref cells off)) : Rep I w (.pointer (some ⟨b, o, none⟩)) (.refAt b o cells off)
  | ifc (t : TypeId) (v : Value) (p : PV) (h : Rep I w v p) : Rep I w (.iface t v) (.ifc t p)
  | any (v : Value) (h : v.oneCell' = true) : Rep I w v .any
  | clo (f : FuncId) (cs : Array Value) (caps : List PV) (hs : cs.size = caps.length) (h4 : ∀ i (h : i < caps.length) (h' : i < cs.size), Rep I w cs[i] caps[i]) : Rep I w (.func (.func f) #[] cs) (.clo f caps)

/-- What was never to be written has not been. -/
structure Keeps (I : Nat → Nat) (w : World) (I' : Nat → Nat) (w' : World) : Prop where
  le : ∀ b, I b ≤ I' b
  cell : ∀ b o, o < I b → w'.cell? ⟨b, o, none⟩ = w.cell? ⟨b, o, none⟩

theorem Keeps.refl (I : Nat → Nat) (w : World) : Keeps I w I w := ⟨fun _ => Nat.le_refl _, fun _ _ _ => rfl⟩
theorem Keeps.trans {I w I' w' I'' w''} (h : Keeps I w I' w') (k : Keeps I' w' I'' w'') : Keeps I w I'' w'' :=
  ⟨fun b => Nat.le_trans (h.le b) (k.le b), fun b o ho => (k.cell b o (Nat.lt_of_lt_of_le ho (h.le b))).trans (h.cell b o ho)⟩

theorem Rep.keeps {I w I' w' v p} (h : Rep I w v p) (k : Keeps I w I' w') : Rep I' w' v p := by
  induction h with
  | bool b => exact .bool b
  | int k n => exact .int k n
  | str s l h => exact .str s l h
  | nilp => exact .nilp
  | ref b o off cells vs hs h1 h2 h3 h4 ih =>
    exact .ref b o off cells vs hs h1 (fun i hi => Nat.lt_of_lt_of_le (h2 i hi) (k.le b)) (fun i hi => (k.cell b _ (h2 i hi)).trans (h3 i hi)) ih
  | nil => exact .nil
  | empty a cap => exact .empty a cap
  | list b o cap es xs vs hs h0 h2 hcap h3 h4 ih =>
    refine .list b o cap es xs vs hs h0 (fun i hi => Nat.lt_of_lt_of_le (h2 i hi) (k.le b)) hcap (fun i j hi hj => (k.cell b _ (h2 _ ?_)).trans (h3 i j hi hj)) ih
    have : i * es + j < xs.length * es := by
      calc i * es + j < i * es + es := by omega
        _ = (i + 1) * es := by rw [Nat.add_mul, Nat.one_mul]
        _ ≤ xs.length * es := Nat.mul_le_mul_right _ hi
    exact this
  | agg cs cells hs h h4 ih => exact .agg cs cells hs h ih
  | refAt b o off cells h ih => exact .refAt b o off cells ih
  | ifc t v p h ih => exact .ifc t v p ih
  | clo f cs caps hs h ih => exact .clo f cs caps hs ih
  | any v h => exact .any v h

/-- A cell of one. -/
theorem Rep.one {I w v p} (h : Rep I w v p) (hp : ∀ cells, p ≠ .agg cells) : v.cells = #[v] := by
  cases h <;> first | rfl | exact absurd rfl (hp _) | (rename_i h; cases v <;> first | rfl | cases h)
theorem Rep.oneCell {I w v p} (h : Rep I w v p) (hp : ∀ cells, p ≠ .agg cells) : v.oneCell' = true := by
  cases h <;> first | rfl | exact absurd rfl (hp _) | assumption

/-- A pure value's cells. -/
def PV.cells : PV → List PV
  | .agg cs => cs
  | p => [p]

theorem Rep.cells {I w v p} (h : Rep I w v p) : v.cells.size = p.cells.length ∧ ∀ i (h : i < p.cells.length) (h' : i < v.cells.size), Rep I w v.cells[i] p.cells[i] := by
  cases h with
  | agg cs cells hs h h4 => exact ⟨h, h4⟩
  | bool b => exact ⟨rfl, fun i h h' => by obtain rfl : i = 0 := (by simp [PV.cells] at h; exact h); exact .bool b⟩
  | int k n => exact ⟨rfl, fun i h h' => by obtain rfl : i = 0 := (by simp [PV.cells] at h; exact h); exact .int k n⟩
  | str s l e => exact ⟨rfl, fun i h h' => by obtain rfl : i = 0 := (by simp [PV.cells] at h; exact h); exact .str s l e⟩
  | nilp => exact ⟨rfl, fun i h h' => by obtain rfl : i = 0 := (by simp [PV.cells] at h; exact h); exact .nilp⟩
  | ref b o off cells vs hs h1 h2 h3 h4 => exact ⟨rfl, fun i h h' => by obtain rfl : i = 0 := (by simp [PV.cells] at h; exact h); exact .ref b o off cells vs hs h1 h2 h3 h4⟩
  | nil => exact ⟨rfl, fun i h h' => by obtain rfl : i = 0 := (by simp [PV.cells] at h; exact h); exact .nil⟩
  | empty a cap => exact ⟨rfl, fun i h h' => by obtain rfl : i = 0 := (by simp [PV.cells] at h; exact h); exact .empty a cap⟩
  | refAt b o off cells h0 => exact ⟨rfl, fun i h h' => by obtain rfl : i = 0 := (by simp [PV.cells] at h; exact h); exact .refAt b o off cells h0⟩
  | ifc t v p h0 => exact ⟨rfl, fun i h h' => by obtain rfl : i = 0 := (by simp [PV.cells] at h; exact h); exact .ifc t v p h0⟩
  | any v h0 =>
    have hc : v.cells = #[v] := by cases v <;> first | rfl | cases h0
    refine ⟨by rw [hc]; rfl, fun i h h' => ?_⟩
    obtain rfl : i = 0 := (by simp [PV.cells] at h; exact h)
    simp only [hc]
    exact .any v h0
  | clo f cs caps hs h0 => exact ⟨rfl, fun i h h' => by obtain rfl : i = 0 := (by simp [PV.cells] at h; exact h); exact .clo f cs caps hs h0⟩
  | list b o cap es xs vs hs h0 h2 hcap h3 h4 => exact ⟨rfl, fun i h h' => by obtain rfl : i = 0 := (by simp [PV.cells] at h; exact h); exact .list b o cap es xs vs hs h0 h2 hcap h3 h4⟩

theorem Rep.flat {I w v p} (h : Rep I w v p) : ∀ c ∈ p.cells, c.scalar = true := by
  cases h with
  | agg cs cells hs h h4 => exact hs
  | _ => intro c hc; simp only [PV.cells, List.mem_cons, List.not_mem_nil, or_false] at hc; subst hc; rfl

theorem Rep.scalar {I w v p} (h : Rep I w v p) (hp : p.scalar = true) : v.oneCell' = true := by
  cases h <;> first | rfl | assumption | cases hp

end Go.Proofs.YtbekdlgkoleblaaDoor
