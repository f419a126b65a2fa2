/- The pure walk: what an operation, a region, a body come to, over pure values, local boxes and meters' counts. -/
import Derived.Test.YtbekdlgkoleblaaDoorEngA
import Derived.Test.YtbekdlgkoleblaaDoorEngTab
namespace Go.Proofs.YtbekdlgkoleblaaDoor

/-- What a slot holds. -/
inductive SV where
  | undef
  | pv (p : PV)
  | loc (d off : Nat)
  | mtr (k off : Nat)
  | full (xs : List (List PV))
  | own (k : Nat) (xs : List (List PV))
  | lrow (d n : Nat)
  | tup (vs : List SV)
  deriving Inhabited

/-- What a call answers. -/
inductive RV where
  | pv (p : PV)
  | fresh (xs : List (List PV))
  | newm (c d : Int)
  | tup (vs : List RV)
  deriving Inhabited

/-- The ghost: up to where a block is never written; the blocks of the meters, of the local boxes, of the rows that are the call's own. -/
structure Gh where
  im : Nat → Nat
  mt : Nat → Option Nat
  lc : Nat → Option Nat
  ow : Nat → Option (Option Nat)

def OwnAt (im : Nat → Nat) (w : World) (b : Nat) (v : Value) (xs : List (List PV)) : Prop :=
  ∃ cap c t es, v = .slice (some ⟨b, 0, none⟩) xs.length cap ∧ w.heap[b]? = some (.cells c t (0, 0)) ∧ c.size = cap * es ∧ im b = xs.length * es ∧ xs.length ≤ cap ∧
    cap ≤ maxLen ∧ 0 < xs.length ∧ 0 < es ∧ ∀ x ∈ xs, x.length = es

inductive SRel (g : Gh) (w : World) : Value → SV → Prop
  | undef : SRel g w Go.undef .undef
  | pv {v p} (h : Rep g.im w v p) : SRel g w v (.pv p)
  | loc (d off b : Nat) (h : g.lc d = some b) : SRel g w (.pointer (some ⟨b, off, none⟩)) (.loc d off)
  | mtr (k off b : Nat) (h : g.mt k = some b) : SRel g w (.pointer (some ⟨b, off, none⟩)) (.mtr k off)
  | full {a n} (h : Rep g.im w (.slice a n n) (.list [])) : SRel g w (.slice a n n) (.full [])
  | ownNone {k a n} (h : g.ow k = some none) (h' : Rep g.im w (.slice a n n) (.list [])) : SRel g w (.slice a n n) (.own k [])
  | own {k b v xs} (h : g.ow k = some (some b)) (h' : Rep g.im w v (.list xs)) (h'' : OwnAt g.im w b v xs) : SRel g w v (.own k xs)
  | lrow (d n b cap : Nat) (h : g.lc d = some b) : SRel g w (.slice (some ⟨b, 0, none⟩) n cap) (.lrow d n)
  | tup (us : Array Value) (vs : List SV) (h : us.size = vs.length) (h4 : ∀ i (h : i < vs.length) (h' : i < us.size), SRel g w us[i] vs[i]) : SRel g w (.tuple us) (.tup vs)

/-- What a call answers, read where the call ends; 'n': how many blocks there were when it began. -/
inductive RRel (im : Nat → Nat) (mt : Nat → Option Nat) (w : World) (n : Nat) : Value → RV → Prop
  | pv {v p} (h : Rep im w v p) : RRel im mt w n v (.pv p)
  | freshFull {a m} (h : Rep im w (.slice a m m) (.list [])) : RRel im mt w n (.slice a m m) (.fresh [])
  | fresh {b v xs} (h : n ≤ b) (h' : Rep im w v (.list xs)) (h'' : OwnAt im w b v xs) : RRel im mt w n v (.fresh xs)
  | newm (b : Nat) (c d : Int) (t : TypeId) (h : n ≤ b) (h' : w.heap[b]? = some (.cells #[.int .i64 (IntKind.i64.wrap c), .int .i64 (IntKind.i64.wrap d)] t (0, 0))) (h'' : im b = 0) : RRel im mt w n (.pointer (some ⟨b, 0, none⟩)) (.newm c d)
  | tup (us : Array Value) (vs : List RV) (h : us.size = vs.length) (h4 : ∀ i (h : i < vs.length) (h' : i < us.size), RRel im mt w n us[i] vs[i]) : RRel im mt w n (.tuple us) (.tup vs)

/-- The table holds; no meter lies at its place. -/
def TabG (mt : Nat → Option Nat) (w : World) : Prop := TabHolds w ∧ ∀ k b, mt k = some b → tabN ≤ b
theorem TabG.keep {mt : Nat → Option Nat} {w w' : World} (h : TabG mt w) (hb : ∀ b, b < w.heap.size → (∀ k, mt k ≠ some b) → w'.heap[b]? = w.heap[b]?) : TabG mt w' :=
  ⟨tabHolds_of (fun b hlt => hb b (Nat.lt_of_lt_of_le hlt (tabHolds_size h.1)) fun k hk => by have := h.2 k b hk; omega) h.1, h.2⟩

structure Glob (im : Nat → Nat) (mt : Nat → Option Nat) (gl : Nat → Int × Int) (w : World) : Prop where
  imz : ∀ b, w.heap.size ≤ b → im b = 0
  mts : ∀ k b, mt k = some b → (∃ t, w.heap[b]? = some (.cells #[.int .i64 (IntKind.i64.wrap (gl k).1), .int .i64 (IntKind.i64.wrap (gl k).2)] t (0, 0))) ∧ im b = 0
  inj : ∀ k k' b, mt k = some b → mt k' = some b → k = k'
  bnd : ∃ n, ∀ k b, mt k = some b → k < n
  tab : TabG mt w

structure Ext (im : Nat → Nat) (mt : Nat → Option Nat) (w : World) (im' : Nat → Nat) (w' : World) : Prop where
  os : w'.os = w.os
  tape : w'.tape = w.tape
  output : w'.output = w.output
  size : w.heap.size ≤ w'.heap.size
  im : ∀ b, b < w.heap.size → im' b = im b
  blk : ∀ b, b < w.heap.size → (∀ k, mt k ≠ some b) → w'.heap[b]? = w.heap[b]?

/-- THE CONTRACT OF A CALL. -/
def PCalls (P : Program) (f : FuncId) (args : List SV) (gl : Nat → Int × Int) (Q : RV → (Nat → Int × Int) → Prop) : Prop :=
  ∀ (im : Nat → Nat) (mt : Nat → Option Nat) (w : World) (vs : Array Value), Glob im mt gl w → vs.size = args.length →
    (∀ i (h : i < args.length) (h' : i < vs.size), SRel ⟨im, mt, fun _ => none, fun _ => none⟩ w vs[i] args[i]) →
    Calls P f vs w fun e w' => ∃ v r gl' im', e = .returned v ∧ Q r gl' ∧ RRel im' mt w' w.heap.size v r ∧ Ext im mt w im' w' ∧ Glob im' mt gl' w'

theorem PCalls.mono {P f args gl Q Q'} (h : PCalls P f args gl Q) (hq : ∀ r gl', Q r gl' → Q' r gl') : PCalls P f args gl Q' :=
  fun im mt w vs hg hs ha => (h im mt w vs hg hs ha).mono fun _ _ ⟨v, r, gl', im', he, q, x⟩ => ⟨v, r, gl', im', he, hq _ _ q, x⟩

def upd {α : Type} (f : Nat → α) (k : Nat) (x : α) : Nat → α := fun t => if t = k then x else f t
@[simp] theorem upd_same {α : Type} (f : Nat → α) (k : Nat) (x : α) : upd f k x k = x := by simp [upd]
theorem upd_ne {α : Type} (f : Nat → α) {k t : Nat} (x : α) (h : t ≠ k) : upd f k x t = f t := by simp [upd, h]

/-- The pure state. -/
structure PS where
  env : Nat → Option SV
  loc : Nat → Option (List PV)
  gl : Nat → Int × Int
  gn : Nat

/-- What an operation does beside its answer. -/
inductive Eff where
  | none
  | loc (k : Nat) (cells : List PV)
  | app (k : Nat)

def SV.pv? : SV → Option PV
  | .pv p => some p
  | .full xs => some (.list xs)
  | .own _ xs => some (.list xs)
  | _ => none

mutual
/-- What was the row k reads as a row. -/
def SV.demote (k : Nat) : SV → SV
  | .undef => .undef
  | .pv p => .pv p
  | .loc d off => .loc d off
  | .mtr m off => .mtr m off
  | .lrow d n => .lrow d n
  | .full xs => .full xs
  | .own j xs => if j = k then .pv (.list xs) else .own j xs
  | .tup vs => .tup (SV.demoteAll k vs)
def SV.demoteAll (k : Nat) : List SV → List SV
  | [] => []
  | v :: rest => SV.demote k v :: SV.demoteAll k rest
end
def dem (k : Nat) (e : Nat → Option SV) : Nat → Option SV := fun t => (e t).map (SV.demote k)

def constSV : Value → Option SV
  | .bool b => some (.pv (.bool b))
  | .int k n => some (.pv (.int k n))
  | .string s => some (.pv (.str s.data.toList))
  | .pointer none => some (.pv .nilp)
  | .slice none 0 0 => some (.full [])
  | _ => none

def ev (e : Nat → Option SV) : Operand → Option SV
  | .tmp t => e t
  | .const v => constSV v
  | _ => none

/-- A zero cell. -/
def zeroPV : Value → Option PV
  | .bool b => some (.bool b)
  | .int k n => some (.int k n)
  | .string s => some (.str s.data.toList)
  | .pointer none => some .nilp
  | .slice none 0 0 => some (.list [])
  | _ => none

def zeroAll : List Value → Option (List PV)
  | [] => some []
  | v :: rest => match zeroPV v, zeroAll rest with
    | some p, some l => some (p :: l)
    | _, _ => none
def zeroP (P : Program) (t : TypeId) : Option (List PV) := ((P.info? t).bind (·.zero)).bind fun z => zeroAll z.cells.toList
def aggD : TypeDesc → Bool
  | .struct _ | .array _ _ => true
  | _ => false
/-- A type's size, and whether it is an aggregate. -/
def tyP (P : Program) (t : TypeId) : Option (Nat × Bool) := match P.underlying t, P.info? t with
  | some d, some i => some (i.size, aggD d)
  | _, _ => none
/-- A field: its place, its size, and whether it is an aggregate. -/
def fldP (P : Program) (t : TypeId) (i : Nat) : Option (Nat × Nat × Bool) := match P.underlying t with
  | some (.struct fs) => (fs[i]?).bind fun f => (tyP P f.type).map fun q => (f.offset, q.1, q.2)
  | _ => none
/-- All fields of a struct are known. -/
def fldsP (P : Program) (t : TypeId) : Bool := match P.underlying t with
  | some (.struct fs) => fs.toList.all fun f => (tyP P f.type).isSome
  | _ => false
/-- Of a slice's type: the element's type, its size, how many bytes it has. -/
def elmP (P : Program) (t : TypeId) : Option (TypeId × Nat × Nat) := match P.underlying t with
  | some (.slice e) => (P.info? e).map fun i => (e, i.size, i.bytes)
  | _ => none

/-- All elements have so many cells. -/
def Wide (n : Nat) (xs : List (List PV)) : Prop := ∀ x ∈ xs, x.length = n

def splice (off : Nat) (new cells : List PV) : List PV := cells.take off ++ new ++ cells.drop (off + new.length)

def pfill (place : Nat → Option (Nat × Nat × Bool)) : List PV → List (Nat × Option PV) → Option (List PV)
  | cells, [] => some cells
  | cells, (i, some p) :: rest => match place i with
    | some (off, size, _) => if p.cells.length = size ∧ off + size ≤ cells.length then pfill place (splice off p.cells cells) rest else none
    | none => none
  | _, (_, none) :: _ => none

def prows (size : Nat) : List (List PV) → List (Nat × Option PV) → Option (List (List PV))
  | rows, [] => some rows
  | rows, (i, some p) :: rest => if p.cells.length = size ∧ i < rows.length then prows size (rows.set i p.cells) rest else none
  | _, (_, none) :: _ => none

def partOf (agg : Bool) (off size : Nat) (cells : List PV) : Option PV :=
  if agg then (if off + size ≤ cells.length then some (.agg ((cells.drop off).take size)) else none) else cells[off]?

/-- A pointer is itself. -/
def PtrSame (P : Program) (t : TypeId) : Prop := ∀ (w : World) (b o : Nat), (binOp .eql t (.pointer (some ⟨b, o, none⟩)) (.pointer (some ⟨b, o, none⟩))).run P w = .ok (.bool true) w

/-- Two structs of two whole numbers each: '==' of their type is that of both. -/
def PairEq (P : Program) (t : TypeId) : Prop := ∀ (w : World) (x y : Operand) (a b c d : Int),
  (do eqGuard .eql t x y (.agg #[.int .i64 a, .int .i64 b]) (.agg #[.int .i64 c, .int .i64 d]); binOp .eql t (.agg #[.int .i64 a, .int .i64 b]) (.agg #[.int .i64 c, .int .i64 d])).run P w = .ok (.bool (a == c && b == d)) w ∧
  (do eqGuard .neq t x y (.agg #[.int .i64 a, .int .i64 b]) (.agg #[.int .i64 c, .int .i64 d]); binOp .neq t (.agg #[.int .i64 a, .int .i64 b]) (.agg #[.int .i64 c, .int .i64 d])).run P w = .ok (.bool (!(a == c && b == d))) w

def pbin (P : Program) (op : BinOp) (t : TypeId) : PV → PV → Option (Prop × PV)
  | .int k a, .int k' b => if k = k' then match op with
      | .add => some (True, .int k (k.wrap (a + b)))
      | .sub => some (True, .int k (k.wrap (a - b)))
      | .mul => some (True, .int k (k.wrap (a * b)))
      | .quo => some (b ≠ 0, .int k (k.wrap (a.tdiv b)))
      | .rem => some (b ≠ 0, .int k (a.tmod b))
      | .eql => some (True, .bool (a == b))
      | .neq => some (True, .bool (a != b))
      | .lss => some (True, .bool (decide (a < b)))
      | .leq => some (True, .bool (decide (a ≤ b)))
      | .gtr => some (True, .bool (decide (a > b)))
      | .geq => some (True, .bool (decide (a ≥ b)))
      | _ => none
    else none
  | .bool a, .bool b => match op with
      | .eql => some (P.underlying t = some .bool, .bool (a == b))
      | .neq => some (P.underlying t = some .bool, .bool (!(a == b)))
      | _ => none
  | .str a, .str b => match op with
      | .add => some (a.length + b.length ≤ 9223372036854775807, .str (a ++ b))
      | .eql => some (True, .bool (a == b))
      | .neq => some (True, .bool (!(a == b)))
      | _ => none
  | .nilp, .nilp => match op with
      | .eql => some (P.underlying t = some (.pointer (P.pointee t)), .bool true)
      | .neq => some (P.underlying t = some (.pointer (P.pointee t)), .bool false)
      | _ => none
  | .ref _ _, .nilp => match op with
      | .eql => some (P.underlying t = some (.pointer (P.pointee t)), .bool false)
      | .neq => some (P.underlying t = some (.pointer (P.pointee t)), .bool true)
      | _ => none
  | .refAt b o _ _, .refAt b' o' _ _ => match op with
      | .eql => some (PtrSame P t ∧ b = b' ∧ o = o', .bool true)
      | _ => none
  | .agg [.int .i64 a, .int .i64 b], .agg [.int .i64 c, .int .i64 d] => match op with
      | .eql => some (PairEq P t, .bool (a == c && b == d))
      | .neq => some (PairEq P t, .bool (!(a == c && b == d)))
      | _ => none
  | _, _ => none

/-- An index's place. -/
def pidx (i : Int) (n : Nat) : Prop := 0 ≤ i ∧ i < n

/-- Of a method that a type's values have themselves: which function it is. -/
def methP (P : Program) (t : TypeId) (name : String) : Option FuncId := match P.underlying t, (P.info? t).bind fun i => i.methods.find? (·.name == name) with
  | some (.pointer _), _ => none
  | some _, some m => match m.path.toList, m.func with
    | [], some (f, false) => some f
    | _, _ => none
  | _, _ => none

/-- A type that is no interface. -/
def plainT (P : Program) (t : TypeId) : Bool := match P.underlying t with
  | some (.interface _) => false
  | some _ => true
  | none => false

def callFits (P : Program) (f : FuncId) : Prop := ∀ (args : Array Value) (w : World), (callFunc f args).run P w = .ok (.enter f args) w

/-- No row, written so. -/
def nilC : Operand → Bool
  | .const (.slice none 0 0) => true
  | _ => false

/-- A row that is not empty is not no row. -/
def sliceNil (P : Program) (op : BinOp) (t : TypeId) : Option PV → Option (Prop × SV × Eff)
  | some (.list (_ :: _)) => match op with
    | .eql => some (∃ e, P.underlying t = some (.slice e), .pv (.bool false), .none)
    | _ => none
  | _ => none

/-- A slot's number, bool, text, pointer, struct. -/
def intIn : Option SV → Option (IntKind × Int)
  | some (.pv (.int k n)) => some (k, n)
  | _ => none
def boolIn : Option SV → Option Bool
  | some (.pv (.bool b)) => some b
  | _ => none
def strIn : Option SV → Option (List UInt8)
  | some (.pv (.str l)) => some l
  | _ => none
def aggIn : Option SV → Option (List PV)
  | some (.pv (.agg l)) => some l
  | _ => none
inductive Ptr where
  | loc (d off : Nat)
  | ref (cells : List PV) (off : Nat)
  | mtr (k off : Nat)
def Ptr.sv : Ptr → SV
  | .loc d off => .loc d off
  | .ref cells off => .pv (.ref cells off)
  | .mtr k off => .mtr k off
def ptrIn : Option SV → Option Ptr
  | some (.loc d off) => some (.loc d off)
  | some (.pv (.ref cells off)) => some (.ref cells off)
  | some (.mtr k off) => some (.mtr k off)
  | _ => none
def tupIn : Option SV → Option (List SV)
  | some (.tup vs) => some vs
  | _ => none

/-- A row that is a local box. -/
def lrowIn : Option SV → Option (Nat × Nat)
  | some (.lrow d n) => some (d, n)
  | _ => none
def lrowsIn (e : Nat → Option SV) : List Operand → Option (Nat × Nat)
  | [x] => lrowIn (ev e x)
  | _ => none

/-- What operands hold, as pure values. -/
def allPv (e : Nat → Option SV) : List Operand → Option (List PV)
  | [] => some []
  | x :: rest => match (ev e x).bind SV.pv?, allPv e rest with
    | some p, some l => some (p :: l)
    | _, _ => none

/-- A row of bytes, as a text. -/
def bytesOf : List (List PV) → Option (List UInt8)
  | [] => some []
  | [.int .u8 n] :: rest => (bytesOf rest).map fun l => UInt8.ofNat n.toNat :: l
  | _ => none

/-- Rows that are built: the slot's own, but none at all. -/
def buildRow (c : Prop) : Option Nat → List (List PV) → Option (Prop × SV × Eff)
  | _, [] => some (c, .full [], .none)
  | some d, r :: rows => some (c, .own d (r :: rows), .app d)
  | none, _ => none

/-- An operation that is no call of a Go function. -/
def pstep (P : Program) (imm : TypeId → Bool) (s : PS) (o : Oper) : Option (Prop × SV × Eff) :=
  match o.op with
  | .move x | .assign x => (ev s.env x).map fun v => (True, v, .none)
  | .pick c a b => match boolIn (ev s.env c) with
    | some t => (if t then ev s.env a else ev s.env b).map fun v => (True, v, .none)
    | _ => none
  | .alloc t => match o.dst, zeroP P t with
    | some d, some z => some (s.loc d = none, .loc d 0, .loc d z)
    | _, _ => none
  | .box t x => match o.dst, (ev s.env x).bind SV.pv? with
    | some d, some p => if imm t then some (True, .pv (.ref p.cells 0), .none) else some (s.loc d = none, .loc d 0, .loc d p.cells)
    | _, _ => none
  | .build t parts => match fldsP P t, zeroP P t with
    | true, some z => (pfill (fldP P t) z (parts.toList.map fun q => (q.1, (ev s.env q.2).bind SV.pv?))).map fun cells => (True, .pv (.agg cells), .none)
    | _, _ => none
  | .buildSlice t n parts => match elmP P t with
    | some (e, size, _) => match zeroP P e with
      | some z => (prows size (List.replicate n z) (parts.toList.map fun q => (q.1, (ev s.env q.2).bind SV.pv?))).bind fun rows => buildRow (z.length = size ∧ 0 < size ∧ n * size ≤ 16777216) o.dst rows
      | none => none
    | none => none
  | .load t x => match tyP P t, ptrIn (ev s.env x) with
    | some (size, agg), some (.loc d off) => match s.loc d with
      | some cells => (partOf agg off size cells).map fun p => (True, .pv p, .none)
      | none => none
    | some (size, agg), some (.ref cells off) => (partOf agg off size cells).map fun p => (True, .pv p, .none)
    | _, _ => none
  | .store t x y => match tyP P t, ptrIn (ev s.env x), (ev s.env y).bind SV.pv?, o.dst with
    | some (size, _), some (.loc d off), some p, none => match s.loc d with
      | some cells => some (p.cells.length = size ∧ off + size ≤ cells.length, .undef, .loc d (splice off p.cells cells))
      | none => none
    | _, _, _, _ => none
  | .nilCheck x => (ptrIn (ev s.env x)).map fun p => (True, p.sv, .none)
  | .binOp op t x y _ => if nilC y then sliceNil P op t ((ev s.env x).bind SV.pv?) else match (ev s.env x).bind SV.pv?, (ev s.env y).bind SV.pv? with
    | some p, some q => (pbin P op t p q).map fun r => (r.1, .pv r.2, .none)
    | none, some .nilp => match ptrIn (ev s.env x), op with
      | some _, .eql => some (P.underlying t = some (.pointer (P.pointee t)), .pv (.bool false), .none)
      | some _, .neq => some (P.underlying t = some (.pointer (P.pointee t)), .pv (.bool true), .none)
      | _, _ => none
    | _, _ => none
  | .unOp .not _ x => (boolIn (ev s.env x)).map fun b => (True, .pv (.bool (!b)), .none)
  | .unOp .neg _ x => (intIn (ev s.env x)).map fun q => (True, .pv (.int q.1 (q.1.wrap (0 - q.2))), .none)
  | .convert src dst x => match P.underlying src, P.underlying dst, intIn (ev s.env x) with
    | some _, some (.int k), some (_, n) => some (True, .pv (.int k (k.wrap n)), .none)
    | some (.slice e), some .string, none => match P.underlying e, (ev s.env x).bind SV.pv? with
      | some (.int .u8), some (.list xs) => (bytesOf xs).map fun l => (True, .pv (.str l), .none)
      | _, _ => none
    | _, _, _ => none
  | .slice t x lo hi none => match elmP P t, (ev s.env x).bind SV.pv?, lo.map (fun y => intIn (ev s.env y)), hi.map (fun y => intIn (ev s.env y)) with
    | some (_, size, _), some (.list xs), none, none => some (Wide size xs, .pv (.list xs), .none)
    | some (_, size, _), some (.list xs), some (some (_, l)), none => some (Wide size xs ∧ 0 ≤ l ∧ l ≤ xs.length, .pv (.list (xs.drop l.toNat)), .none)
    | some (_, size, _), some (.list xs), none, some (some (_, h)) => some (Wide size xs ∧ 0 ≤ h ∧ h ≤ xs.length, .pv (.list (xs.take h.toNat)), .none)
    | some (_, size, _), some (.list xs), some (some (_, l)), some (some (_, h)) => some (Wide size xs ∧ 0 ≤ l ∧ l ≤ h ∧ h ≤ xs.length, .pv (.list ((xs.take h.toNat).drop l.toNat)), .none)
    | _, _, _, _ => none
  | .fieldAddr t x f => match fldP P t f, ptrIn (ev s.env x) with
    | some (o, size, _), some (.loc d off) => some (0 < size, .loc d (off + o), .none)
    | some (o, size, _), some (.ref cells off) => some (0 < size, .pv (.ref cells (off + o)), .none)
    | some (o, size, _), some (.mtr k off) => some (0 < size, .mtr k (off + o), .none)
    | _, _ => none
  | .field t x f => match fldP P t f, aggIn (ev s.env x) with
    | some (o, size, agg), some cells => (partOf agg o size cells).map fun p => (True, .pv p, .none)
    | _, _ => none
  | .indexAddr t x ix => match elmP P t, (ev s.env x).bind SV.pv?, intIn (ev s.env ix) with
    | some (_, size, _), some (.list xs), some (_, i) => some (pidx i xs.length ∧ Wide size xs, .pv (.ref (xs.getD i.toNat []) 0), .none)
    | some (_, size, _), none, some (_, i) => (lrowIn (ev s.env x)).map fun q => (pidx i q.2, .loc q.1 (i.toNat * size), .none)
    | _, _, _ => none
  | .index t x ix => match P.underlying t, strIn (ev s.env x), intIn (ev s.env ix) with
    | some .string, some l, some (_, i) => some (pidx i l.length, .pv (.int .u8 ((l.getD i.toNat 0).toNat : Int)), .none)
    | _, _, _ => none
  | .makeInterface t x => if plainT P t then ((ev s.env x).bind SV.pv?).map fun p => (True, .pv (.ifc t p), .none) else none
  | .makeFunc (.func f) first caps => match first.toList, allPv s.env caps.toList with
    | [], some ps => some (True, .pv (.clo f ps), .none)
    | _, _ => none
  | .extract x i => ((tupIn (ev s.env x)).bind fun vs => vs[i]?).map fun v => (True, v, .none)
  | .call { callee := .builtin .len, args, argTypes } => match args.toList.map (fun x => (ev s.env x).bind SV.pv?), (argTypes[0]?).bind P.underlying with
    | [some (.list xs)], some (.slice _) => some (True, .pv (.int .i64 xs.length), .none)
    | [some (.str l)], some .string => some (True, .pv (.int .i64 l.length), .none)
    | [none], some (.slice _) => (lrowsIn s.env args.toList).map fun q => (True, .pv (.int .i64 q.2), .none)
    | _, _ => none
  | .call { callee := .builtin .max, args, .. } => match args.toList.map (fun x => intIn (ev s.env x)) with
    | [some (k, a), some (_, b)] => some (True, .pv (.int k (if b > a then b else a)), .none)
    | _ => none
  | .call { callee := .builtin .min, args, .. } => match args.toList.map (fun x => intIn (ev s.env x)) with
    | [some (k, a), some (_, b)] => some (True, .pv (.int k (if b < a then b else a)), .none)
    | _ => none
  | .call { callee := .builtin .append, args, argTypes } => match args.toList, argTypes.toList, o.dst with
    | [x, y], [t, t'], some d => if t = t' then match elmP P t, ev s.env x, (ev s.env y).bind SV.pv? with
      | some (e, size, bytes), some (.own k xs), some (.list ys) => some ((zeroP P e).map List.length = some size ∧ Wide size xs ∧ Wide size ys ∧ 0 < size ∧ (xs.length + ys.length) * bytes ≤ 140737488355328 ∧ xs.length + ys.length ≤ 140737488355328, .own k (xs ++ ys), .app k)
      | some (e, size, bytes), some (.full xs), some (.list ys) => some ((zeroP P e).map List.length = some size ∧ Wide size xs ∧ Wide size ys ∧ 0 < size ∧ (xs.length + ys.length) * bytes ≤ 140737488355328 ∧ xs.length + ys.length ≤ 140737488355328, .own d (xs ++ ys), .app d)
      | _, _, _ => none
      else none
    | _, _, _ => none
  | _ => none

/-- The state behind an operation. -/
def PS.put (s : PS) (d : Option Nat) (v : SV) : PS := match d with
  | some d => { s with env := upd s.env d (some v) }
  | none => s
def PS.eff (s : PS) : Eff → PS
  | .none => s
  | .loc k cells => { s with loc := upd s.loc k (some cells) }
  | .app k => { s with env := dem k s.env }

/-- An answer, put into slot d: one row that is fresh becomes the call's own. -/
def RV.plain : RV → Option SV
  | .pv p => some (.pv p)
  | .fresh xs => some (.pv (.list xs))
  | _ => none
def plainAll : List RV → Option (List SV)
  | [] => some []
  | r :: rest => match r.plain, plainAll rest with
    | some v, some l => some (v :: l)
    | _, _ => none
/-- The first fresh one of some is taken. -/
def takeAll (d : Nat) : List RV → Option (List SV)
  | [] => some []
  | .fresh xs :: rest => (plainAll rest).map fun l => .own d xs :: l
  | r :: rest => match r.plain, takeAll d rest with
    | some v, some l => some (v :: l)
    | _, _ => none
def PS.answer (s : PS) (d : Option Nat) (r : RV) : PS := match d, r with
  | none, _ => s
  | some d, .newm c e => { s with env := upd s.env d (some (.mtr s.gn 0)), gl := upd s.gl s.gn (c, e), gn := s.gn + 1 }
  | some d, .tup vs => { s with env := upd (dem d s.env) d ((takeAll d vs).map .tup) }
  | some d, .fresh xs => { s with env := upd (dem d s.env) d (some (.own d xs)) }
  | some d, .pv p => { s with env := upd s.env d (some (.pv p)) }

def SV.arg? : SV → Option SV
  | .pv p => some (.pv p)
  | .mtr k off => some (.mtr k off)
  | .full xs => some (.pv (.list xs))
  | .own _ xs => some (.pv (.list xs))
  | _ => none

def pargs (e : Nat → Option SV) : List Operand → Option (List SV)
  | [] => some []
  | x :: rest => match (ev e x).bind SV.arg?, pargs e rest with
    | some v, some l => some (v :: l)
    | _, _ => none

def dstFits (nt : Nat) : Option Nat → Prop
  | none => True
  | some d => d < nt

/-- What a call's operand is, where it is called. -/
def pvIn : Option SV → Option PV
  | some (.pv p) => some p
  | _ => none

/-- Whom a call enters, with what. -/
def ptarget (P : Program) (e : Nat → Option SV) (callee : Callee) (l : List SV) : Option (FuncId × List SV) := match callee with
  | .value (.func f) => some (f, l)
  | .value x => match pvIn (ev e x) with
    | some (.clo f caps) => some (f, l ++ caps.map .pv)
    | _ => none
  | .invoke x name => match pvIn (ev e x) with
    | some (.ifc t p) => (methP P t name).map fun f => (f, .pv p :: l)
    | _ => none
  | .builtin _ => none
def goCallee : Callee → Bool
  | .builtin _ => false
  | _ => true
def pcallOf (P : Program) (e : Nat → Option SV) (c : Call) : Option (FuncId × List SV) := (pargs e c.args.toList).bind (ptarget P e c.callee)
def goCall : Op → Option Call
  | .call c => if goCallee c.callee then some c else none
  | _ => none

def pop1 (P : Program) (imm : TypeId → Bool) (nt : Nat) (s : PS) (o : Oper) (K : PS → Prop) : Prop :=
  match goCall o.op with
  | some c => match pcallOf P s.env c with
    | some (f, l) => callFits P f ∧ dstFits nt o.dst ∧ PCalls P f l s.gl fun r gl' => K (({ s with gl := gl' } : PS).answer o.dst r)
    | none => False
  | _ => match pstep P imm s o with
    | some (c, v, eff) => c ∧ dstFits nt o.dst ∧ K ((s.eff eff).put o.dst v)
    | none => False

/-- Is an operation wanted? none: that can't be told. -/
def pwant (ops : Array Oper) (s : PS) (o : Oper) : Option Bool := match o.guard with
  | none => some true
  | some (j, want) => match ((ops[j]?).bind (·.dst)).map s.env with
    | some (some (.pv (.bool b))) => some (b == want)
    | some (some .undef) => some false
    | _ => none

/-- An operation of a region. -/
def pone (P : Program) (imm : TypeId → Bool) (nt : Nat) (ops : Array Oper) (o : Oper) (s : PS) (K : PS → Prop) : Prop :=
  match pwant ops s o with
  | some true => pop1 P imm nt s o K
  | some false => dstFits nt o.dst ∧ K (s.put o.dst .undef)
  | none => False

def pops (P : Program) (imm : TypeId → Bool) (nt : Nat) (ops : Array Oper) : List Oper → PS → (PS → Prop) → Prop
  | [], s, K => K s
  | o :: rest, s, K => pone P imm nt ops o s fun s' => pops P imm nt ops rest s' K

inductive PX where
  | norm
  | exit (id : Nat)
  | ret

/-- Operations that write nothing but their slot. -/
def quietOp (imm : TypeId → Bool) : Op → Bool
  | .move _ | .assign _ | .pick .. | .build .. | .load .. | .nilCheck _ | .binOp .. | .unOp .. | .convert .. | .slice .. | .fieldAddr .. | .field .. | .indexAddr .. | .index .. | .extract .. | .makeInterface .. => true
  | .box t _ => imm t
  | .call { callee := .builtin .len, .. } | .call { callee := .builtin .max, .. } | .call { callee := .builtin .min, .. } => true
  | _ => false
def loadsOp : Op → Bool
  | .load .. => true
  | _ => false
/-- Operations that write a local box. -/
def locOp : Op → Bool
  | .alloc _ | .box .. | .store .. => true
  | _ => false
def appOp : Op → Bool
  | .call { callee := .builtin .append, .. } => true
  | _ => false

def callOp (o : Op) : Bool := (goCall o).isSome
def allocOp : Op → Bool
  | .alloc _ => true
  | _ => false
/-- Two operations may go either way. -/
def freeOld (imm : TypeId → Bool) (ops : Array Oper) (x y : Oper) : Bool :=
  x.apart ops y && (quietOp imm x.op || quietOp imm y.op) && !(loadsOp x.op && locOp y.op) && !(locOp x.op && loadsOp y.op)
/-- The second one may go ahead of the first: a box that is made may go ahead of loads and of calls, too. -/
def freeOps (imm : TypeId → Bool) (ops : Array Oper) (x y : Oper) : Bool :=
  freeOld imm ops x y || (x.apart ops y && (quietOp imm x.op || callOp x.op) && allocOp y.op)

/-- Of a region that draws its order: each edge goes back; what B says to be ahead is; two operations without a way between may go either way. -/
def drawBack (j : Nat) (oj : Oper) : Bool := oj.after.toList.all fun e => !Region.binds .any e || decide (e.on < j)
def drawWay (B : Array Nat) (i : Nat) (oj : Oper) : Bool := oj.after.toList.any fun e => Region.binds .any e && (e.on == i || (decide (i < e.on) && (B.getD e.on 0).testBit i))
def drawPair (imm : TypeId → Bool) (ops : Array Oper) (B : Array Nat) (j : Nat) (oj : Oper) (i : Nat) : Bool := match ops[i]? with
  | some oi => if (B.getD j 0).testBit i then drawWay B i oj else freeOps imm ops oi oj
  | none => true
def drawAt (imm : TypeId → Bool) (ops : Array Oper) (B : Array Nat) (j : Nat) : Bool := match ops[j]? with
  | some oj => drawBack j oj && (List.range j).all (drawPair imm ops B j oj)
  | none => true
def drawOkBy (imm : TypeId → Bool) (ops : Array Oper) (B : Array Nat) : Bool := (List.range ops.size).all (drawAt imm ops B)
def drawOk (imm : TypeId → Bool) (ops : Array Oper) : Bool := drawOkBy imm ops (Region.before ops)

/-- All regions that draw their order may. -/
def drawAll (imm : TypeId → Bool) : Code → Bool
  | .region _ ops draw => !draw || drawOk imm ops
  | .seq a b => drawAll imm a && drawAll imm b
  | .cond _ a b => drawAll imm a && drawAll imm b
  | .block _ c => drawAll imm c
  | .loop c => drawAll imm c
  | _ => true

def look {α : Type} : List (Nat × α) → Nat → Option α
  | [], _ => none
  | (k, v) :: rest, t => if t = k then some v else look rest t

/-- A slot holds at least that: what is the call's own may be read as a row; a full row may be owned. -/
def fits1 (s : PS) (t : Nat) (v : SV) : Prop := s.env t = some v ∨ match v with
  | .own _ xs => s.env t = some (.full xs)
  | .pv (.list xs) => (∃ k, s.env t = some (.own k xs)) ∨ s.env t = some (.full xs)
  | _ => False
def tokens : List (Nat × SV) → List Nat
  | [] => []
  | (_, .own k _) :: rest => k :: tokens rest
  | _ :: rest => tokens rest
def plainSV : SV → Bool
  | .tup _ => false
  | _ => true
def locsIn (m : List (Nat × List PV)) : SV → Prop
  | .loc d _ => (look m d).isSome = true
  | .lrow d _ => (look m d).isSome = true
  | _ => True
def allFit (s : PS) (m : List (Nat × List PV)) : List (Nat × SV) → Prop
  | [] => True
  | (t, v) :: rest => fits1 s t v ∧ plainSV v = true ∧ locsIn m v ∧ allFit s m rest
def locFit (s : PS) : List (Nat × List PV) → Prop
  | [] => True
  | (d, cells) :: rest => s.loc d = some cells ∧ locFit s rest
/-- What is forgotten at a loop's head. -/
structure LeS (s0 s : PS) : Prop where
  out : ∃ (l : List (Nat × SV)) (m : List (Nat × List PV)), s0 = ⟨look l, look m, s.gl, s.gn⟩ ∧ allFit s m l ∧ (tokens l).Nodup ∧ locFit s m

/-- Of what is forgotten ahead of the rest nothing is asked. -/
def pcut (s : PS) (K : PS → Prop) : Prop := ∃ s0, LeS s0 s ∧ K s0

/-- What a row's cells are, when the row has become a local box: as many as they were; numbers, where they were. -/
structure Adopted (rows : List (List PV)) (cells : List PV) : Prop where
  len : ∀ es, Wide es rows → cells.length = rows.length * es
  ints : (∀ x ∈ rows, ∀ p ∈ x, ∃ n, p = .int .i64 n) → ∀ p ∈ cells, ∃ n, p = .int .i64 n

/-- A call's answer becomes a local box. -/
def padoptC (P : Program) (nt : Nat) (s : PS) (d : Option Nat) (c : Call) (K : PS → Prop) : Prop := match d, pcallOf P s.env c with
  | some d, some (f, l) => callFits P f ∧ d < nt ∧ s.loc d = none ∧ ∃ rows : List (List PV), rows ≠ [] ∧ (PCalls P f l s.gl fun r gl' => r = .fresh rows ∧ gl' = s.gl) ∧
      ∀ cells, Adopted rows cells → K { s with env := upd s.env d (some (.lrow d rows.length)), loc := upd s.loc d (some cells) }
  | _, _ => False

/-- A region whose call's answer becomes a local box. -/
def padopt (P : Program) (imm : TypeId → Bool) (nt : Nat) (ops : Array Oper) : List Oper → PS → (PS → Prop) → Prop
  | [], _, _ => False
  | o :: rest, s, K => match goCall o.op, o.guard with
    | some c, none => padoptC P nt s o.dst c fun s' => pops P imm nt ops rest s' K
    | _, _ => pone P imm nt ops o s fun s' => padopt P imm nt ops rest s' K

/-- 'imm' tells, beside types, the regions ahead of which is forgotten: from 1000000 on; those whose answer becomes a local box: from 2000000 on. -/
def pwp (P : Program) (imm : TypeId → Bool) (nt : Nat) : Code → (PX → PS → Prop) → PS → Prop
  | .skip, Q, s => Q .norm s
  | .region id ops draw, Q, s => if imm (2000000 + id) then draw = false ∧ padopt P imm nt ops ops.toList s (Q .norm) else if imm (1000000 + id) then pcut s fun s0 => pops P imm nt ops ops.toList s0 (Q .norm) else pops P imm nt ops ops.toList s (Q .norm)
  | .seq a b, Q, s => pwp P imm nt a (fun e s' => match e with | .norm => pwp P imm nt b Q s' | e => Q e s') s
  | .cond c x y, Q, s => match boolIn (ev s.env c) with
    | some b => if b then pwp P imm nt x Q s else pwp P imm nt y Q s
    | _ => False
  | .block id c, Q, s => pwp P imm nt c (fun e s' => match e with | .exit i => if i = id then Q .norm s' else Q (.exit i) s' | e => Q e s') s
  | .loop c, Q, s => ∃ (I : PS → Prop) (μ : PS → Nat), (∃ s0, LeS s0 s ∧ I s0) ∧ ∀ s, I s → pwp P imm nt c (fun e s' => match e with | .norm => ∃ s0, LeS s0 s' ∧ I s0 ∧ μ s0 < μ s | e => Q e s') s
  | .exit id, Q, s => Q (.exit id) s
  | .ret, Q, s => Q .ret s
  | _, _, _ => False

def SV.res : SV → Option RV
  | .pv p => some (.pv p)
  | .full xs => some (.fresh xs)
  | .own _ xs => some (.fresh xs)
  | _ => none

/-- What a function's result variables hold at its end. -/
def pres1 (P : Program) (s : PS) : ResultVar → Option RV
  | .tmp t => match s.env t with
    | some (.loc d 0) => (s.loc d).map fun cells => .pv (.ref cells 0)
    | some v => v.res
    | none => none
  | .cell a t => match tyP P t, s.env a with
    | some (size, agg), some (.loc d off) => match s.loc d with
      | some cells => (partOf agg off size cells).map .pv
      | none => none
    | _, _ => none
def presAll (P : Program) (s : PS) : List ResultVar → Option (List RV)
  | [] => some []
  | x :: rest => match pres1 P s x, presAll P s rest with
    | some r, some l => some (r :: l)
    | _, _ => none
def pres (P : Program) (s : PS) (rs : Array ResultVar) : Option RV := match presAll P s rs.toList with
  | some [r] => some r
  | some l => some (.tup l)
  | none => none

/-- The state in which a body begins. -/
def PS.start (args : List SV) (gl : Nat → Int × Int) (gn : Nat) : PS := { env := fun t => args[t]?, loc := fun _ => none, gl, gn }

end Go.Proofs.YtbekdlgkoleblaaDoor
