/- Each operation does what the pure one says (2). -/
import Derived.Test.YtbekdlgkoleblaaDoorEngD
namespace Go.Proofs.YtbekdlgkoleblaaDoor

/-- What an operation comes to. -/
def Did (P : Program) (F : Fr) (s' : PS) (o : Oper) (a : Act) (w : World) : Prop :=
  ∃ g' w', (∃ v, (execOp a.eval o).run P w = .ok (.value v) w' ∧ Inv F g' s' (a.put o.dst v) w') ∨ ((execOp a.eval o).run P w = .ok .skip w' ∧ Inv F g' s' (a.put o.dst undef) w')

section
variable {P : Program} {F : Fr} {g : Gh} {s : PS} {a : Act} {w : World}

/-- An operation that only computes. -/
theorem did_pure {o : Oper} {x : SV} (h : Inv F g s a w) (hd : dstFits F.nt o.dst) {v : Value} (hr : (execOp a.eval o).run P w = .ok (.value v) w) (hv : SRel g w v x) : Did P F ((s.eff .none).put o.dst x) o a w :=
  ⟨g, w, .inl ⟨v, hr, h.put hd hv⟩⟩

theorem exec_v {o : Oper} {sem : Sem Value} {v : Value} {w' : World} (e : execOp a.eval o = (do pure (.value (← sem)))) (hr : sem.run P w = .ok v w') : (execOp a.eval o).run P w = .ok (.value v) w' := by
  rw [e]; simp [hr]

theorem did_move {o : Oper} {x : Operand} (h : Inv F g s a w) (hd : dstFits F.nt o.dst) (ho : o.op = .move x ∨ o.op = .assign x) {v : SV} (he : ev s.env x = some v) : Did P F ((s.eff .none).put o.dst v) o a w := by
  refine did_pure h hd (v := a.eval x) ?_ (ev_ok h he)
  rcases ho with ho | ho <;> simp [execOp, ho]

theorem rep_bool {I : Nat → Nat} {v : Value} {b : Bool} (h : Rep I w v (.bool b)) : v = .bool b := by cases h; rfl
theorem rep_int {I : Nat → Nat} {v : Value} {k : IntKind} {n : Int} (h : Rep I w v (.int k n)) : v = .int k n := by cases h; rfl
theorem rep_nilp {I : Nat → Nat} {v : Value} (h : Rep I w v .nilp) : v = .pointer none := by cases h; rfl
theorem srel_pv {v : Value} {p : PV} (h : SRel g w v (.pv p)) : Rep g.im w v p := by cases h; assumption
theorem rep_str {I : Nat → Nat} {v : Value} {l : List UInt8} (h : Rep I w v (.str l)) : ∃ s : ByteArray, v = .string s ∧ s.data.toList = l := by cases h; exact ⟨_, rfl, by assumption⟩
theorem rep_ref {I : Nat → Nat} {v : Value} {c : List PV} {o : Nat} (h : Rep I w v (.ref c o)) : ∃ b off, v = .pointer (some ⟨b, off, none⟩) := by cases h; exact ⟨_, _, rfl⟩
theorem rep_refs {I : Nat → Nat} {v : Value} {c : List PV} {o : Nat} (h : Rep I w v (.ref c o)) : ∀ p ∈ c, p.scalar = true := by cases h; assumption
theorem rep_agg {I : Nat → Nat} {v : Value} {c : List PV} (h : Rep I w v (.agg c)) : ∃ cs : Array Value, v = .agg cs ∧ cs.size = c.length ∧ (∀ p ∈ c, p.scalar = true) ∧ ∀ i (h : i < c.length) (h' : i < cs.size), Rep I w cs[i] c[i] := by
  cases h; exact ⟨_, rfl, by assumption, by assumption, by assumption⟩
theorem rep_list {I : Nat → Nat} {v : Value} {xs : List (List PV)} (h : Rep I w v (.list xs)) : ∃ ad cap, v = .slice ad xs.length cap ∧ xs.length ≤ cap := by
  cases h
  · exact ⟨_, _, rfl, Nat.le_refl _⟩
  · exact ⟨_, _, rfl, Nat.zero_le _⟩
  · exact ⟨_, _, rfl, by assumption⟩

theorem did_pick {o : Oper} {c x y : Operand} (h : Inv F g s a w) (hd : dstFits F.nt o.dst) (ho : o.op = .pick c x y) {t : Bool} (hc : ev s.env c = some (.pv (.bool t))) {v : SV}
    (he : (if t then ev s.env x else ev s.env y) = some v) : Did P F ((s.eff .none).put o.dst v) o a w := by
  have hb := rep_bool (srel_pv (ev_ok h hc))
  cases t with
  | true =>
    refine did_pure h hd (v := a.eval x) ?_ (ev_ok h (by simpa using he))
    simp [execOp, ho, hb, asBool]
  | false =>
    refine did_pure h hd (v := a.eval y) ?_ (ev_ok h (by simpa using he))
    simp [execOp, ho, hb, asBool]

theorem Rep.alloc {I : Nat → Nat} {v : Value} {p : PV} (h : Rep I w v p) (hz : ∀ b, w.heap.size ≤ b → I b = 0) (o : Obj) (n : Nat) : Rep (upd I w.heap.size n) (w.alloc o) v p := h.keeps (keeps_alloc hz o n)

/-- A pointer to a new block that is never written. -/
theorem rep_new (h : Inv F g s a w) (c : Array Value) (t : TypeId) (cells : List PV) (hc : c.size = cells.length) (hs : ∀ p ∈ cells, p.scalar = true) (hr : ∀ i (h : i < cells.length) (h' : i < c.size), Rep g.im w c[i] cells[i]) :
    Rep (upd g.im w.heap.size c.size) (w.alloc (.cells c t)) (.pointer (some ⟨w.heap.size, 0, none⟩)) (.ref cells 0) := by
  refine .ref _ 0 0 cells (fun i => c.getD i undef) hs (Nat.le_refl _) (fun i hi => by simp [upd]; omega) (fun i hi => ?_) fun i hi => ?_
  · rw [cell_of_heap (heap_new w _)]
    have : i < c.size := by omega
    simp [this]
  · have hi' : i < c.size := by omega
    have := (hr i hi hi').alloc h.imz (.cells c t) c.size
    simpa [hi'] using this

theorem did_alloc {o : Oper} {t : TypeId} {d : Nat} (h : Inv F g s a w) (hd : dstFits F.nt o.dst) (ho : o.op = .alloc t) {z : List PV} (hz : zeroP P t = some z) (hf : s.loc d = none) :
    Did P F ((s.eff (.loc d z)).put o.dst (.loc d 0)) o a w := by
  obtain ⟨zv, h1, h2, hs, h3⟩ := zeroP_ok (I := g.im) (w := w) hz
  have hn := h.newLoc d hf zv.cells t z h2 hs h3
  refine ⟨_, _, .inl ⟨.pointer (some ⟨w.heap.size, 0, none⟩), ?_, hn.put (s := { s with loc := upd s.loc d (some z) }) hd (.loc d 0 w.heap.size (by simp))⟩⟩
  simp [execOp, ho, Instr.alloc, h1, newVar, newRow]

theorem did_box {o : Oper} {t : TypeId} {x : Operand} {d : Nat} (h : Inv F g s a w) (hd : dstFits F.nt o.dst) (ho : o.op = .box t x) {p : PV} (hp : (ev s.env x).bind SV.pv? = some p) (hf : s.loc d = none) :
    Did P F ((s.eff (.loc d p.cells)).put o.dst (.loc d 0)) o a w := by
  obtain ⟨h2, h3⟩ := (evp_ok h hp).cells
  have hn := h.newLoc d hf (a.eval x).cells t p.cells h2 (evp_ok h hp).flat h3
  refine ⟨_, _, .inl ⟨.pointer (some ⟨w.heap.size, 0, none⟩), ?_, hn.put (s := { s with loc := upd s.loc d (some p.cells) }) hd (.loc d 0 w.heap.size (by simp))⟩⟩
  simp [execOp, ho, Instr.box, newVar, newRow]

theorem did_boxIm {o : Oper} {t : TypeId} {x : Operand} (h : Inv F g s a w) (hd : dstFits F.nt o.dst) (ho : o.op = .box t x) {p : PV} (hp : (ev s.env x).bind SV.pv? = some p) :
    Did P F ((s.eff .none).put o.dst (.pv (.ref p.cells 0))) o a w := by
  obtain ⟨h2, h3⟩ := (evp_ok h hp).cells
  refine ⟨_, _, .inl ⟨.pointer (some ⟨w.heap.size, 0, none⟩), ?_, (h.newIm (.cells (a.eval x).cells t) (a.eval x).cells.size).put hd (.pv (rep_new h _ t p.cells h2 (evp_ok h hp).flat h3))⟩⟩
  simp [execOp, ho, Instr.box, newVar, newRow]

/-- A load. -/
theorem did_loadLoc {o : Oper} {t : TypeId} {x : Operand} (h : Inv F g s a w) (hd : dstFits F.nt o.dst) (ho : o.op = .load t x) {size off d : Nat} {ag : Bool} (ht : tyP P t = some (size, ag)) (hx : ev s.env x = some (.loc d off))
    {cells : List PV} (hl : s.loc d = some cells) {p : PV} (hp : partOf ag off size cells = some p) : Did P F ((s.eff .none).put o.dst (.pv p)) o a w := by
  have hv := ev_ok h hx
  generalize hval : a.eval x = val at hv
  cases hv with
  | loc d off b hb =>
    obtain ⟨h1, h2, h3, cells', c, tt, e1, e2, e3, hs, e4⟩ := h.locs d b hb
    rw [hl] at e1; injection e1 with e1; subst e1
    obtain ⟨v, hr, hrep⟩ := load_part (I := g.im) (w := w) (ad := ⟨b, off, none⟩) ht hp rfl hs (fun i hi => by
      have hi' : off + i < c.size := by omega
      refine ⟨c[off + i], ?_, e4 _ hi hi'⟩
      show w.cell? ⟨b, off + i, none⟩ = _
      rw [cell_of_heap e2]; simp [hi'])
    refine did_pure h hd (v := v) ?_ (.pv hrep)
    simp [execOp, ho, Instr.loadAt, hval, Instr.sureAddr, hr]

theorem did_loadRef {o : Oper} {t : TypeId} {x : Operand} (h : Inv F g s a w) (hd : dstFits F.nt o.dst) (ho : o.op = .load t x) {size off : Nat} {ag : Bool} (ht : tyP P t = some (size, ag)) {cells : List PV} (hx : ev s.env x = some (.pv (.ref cells off)))
    {p : PV} (hp : partOf ag off size cells = some p) : Did P F ((s.eff .none).put o.dst (.pv p)) o a w := by
  have hv := srel_pv (ev_ok h hx)
  obtain ⟨b, of', hval⟩ := rep_ref hv
  rw [hval] at hv
  obtain ⟨v, hr, hrep⟩ := load_part (I := g.im) (w := w) (ad := ⟨b, of', none⟩) ht hp rfl (rep_refs hv) (fun i hi => hv.cellsIn i hi)
  refine did_pure h hd (v := v) ?_ (.pv hrep)
  simp [execOp, ho, Instr.loadAt, hval, Instr.sureAddr, hr]

end
end Go.Proofs.YtbekdlgkoleblaaDoor
