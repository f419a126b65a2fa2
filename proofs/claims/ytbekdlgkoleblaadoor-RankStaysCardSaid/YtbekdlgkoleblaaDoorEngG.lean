/- Each operation does what the pure one says (4): structs and rows that are built, rows that are read. -/
import Derived.Test.YtbekdlgkoleblaaDoorEngF
namespace Go.Proofs.YtbekdlgkoleblaaDoor

section
variable {P : Program} {F : Fr} {g : Gh} {s : PS} {a : Act} {w : World}

theorem mapM_run {α β : Type} {f : α → Sem β} {r : α → β} : ∀ (l : List α), (∀ x ∈ l, (f x).run P w = .ok (r x) w) → (l.mapM f).run P w = .ok (l.map r) w
  | [], _ => by simp
  | x :: rest, h => by
    have ih := mapM_run rest fun y hy => h y (List.mem_cons_of_mem _ hy)
    simp [List.mapM_cons, h x List.mem_cons_self, ih]
theorem mapMA_run {α β : Type} {f : α → Sem β} {r : α → β} (l : Array α) (h : ∀ x ∈ l.toList, (f x).run P w = .ok (r x) w) : (l.mapM f).run P w = .ok (l.map r) w := by
  rw [Array.mapM_eq_mapM_toList]
  simp only [Sem.run_map, mapM_run l.toList h, Result.andThen_ok]
  congr 1
  apply Array.ext'
  simp

/-- One part put over a row of cells. -/
theorem fold_set (v : Array Value) (off : Nat) (c : Array Value) (h : off + v.size ≤ c.size) :
    v.zipIdx.foldl (fun cs (x : Value × Nat) => cs.setIfInBounds (off + x.2) x.1) c = (c.toList.take off ++ v.toList ++ c.toList.drop (off + v.toList.length)).toArray := by
  have key : ∀ (l : List Value) (k : Nat) (c : Array Value), off + k + l.length ≤ c.size →
      (l.zipIdx k).foldl (fun cs (x : Value × Nat) => cs.setIfInBounds (off + x.2) x.1) c = (c.toList.take (off + k) ++ l ++ c.toList.drop (off + k + l.length)).toArray := by
    intro l
    induction l with
    | nil => intro k c _; simp
    | cons x l ih =>
      intro k c hc
      simp only [List.length_cons] at hc
      rw [List.zipIdx_cons, List.foldl_cons, ih (k + 1) _ (by simp; omega)]
      have e := list_seg_step c.toList (off + k) x l (by simp; omega)
      simp only [Array.toList_setIfInBounds]
      congr 1
  have h0 := key v.toList 0 c (by simpa using h)
  simp only [Nat.add_zero] at h0
  rw [← h0, ← Array.foldl_toList, Array.toList_zipIdx]

theorem fill_ok {I : Nat → Nat} {place : Nat → Option (Nat × Nat)} {pl : Nat → Option (Nat × Nat × Bool)} (hpl : ∀ i o n b, pl i = some (o, n, b) → place i = some (o, n)) :
    ∀ (parts : List (Nat × Value)) (ps : List (Nat × Option PV)) (c : Array Value) (cells cells' : List PV), c.size = cells.length → (∀ p ∈ cells, p.scalar = true) →
    (∀ i (h : i < cells.length) (h' : i < c.size), Rep I w c[i] cells[i]) → parts.length = ps.length →
    (∀ j (h : j < parts.length) (h' : j < ps.length), (parts[j]).1 = (ps[j]).1 ∧ ∀ p, (ps[j]).2 = some p → Rep I w (parts[j]).2 p) → pfill pl cells ps = some cells' →
    ∃ c', Instr.fill place c parts = some c' ∧ c'.size = cells'.length ∧ (∀ p ∈ cells', p.scalar = true) ∧ ∀ i (h : i < cells'.length) (h' : i < c'.size), Rep I w c'[i] cells'[i]
  | [], [], c, cells, cells', h1, h2, h3, _, _, hf => by
    simp only [pfill, Option.some.injEq] at hf; subst hf
    exact ⟨c, rfl, h1, h2, h3⟩
  | [], _ :: _, _, _, _, _, _, _, hl, _, _ => by simp at hl
  | _ :: _, [], _, _, _, _, _, _, hl, _, _ => by simp at hl
  | (i, v) :: parts, (i', q) :: ps, c, cells, cells', h1, h2, h3, hl, hp, hf => by
    obtain ⟨e0, hr0⟩ := hp 0 (by simp) (by simp)
    simp only [List.getElem_cons_zero] at e0 hr0
    subst e0
    cases q with
    | none => simp [pfill] at hf
    | some p =>
      have hr := hr0 p rfl
      obtain ⟨hz, hzr⟩ := hr.cells
      simp only [pfill] at hf
      split at hf
      · rename_i off size b hpi
        split at hf
        · rename_i hcond
          obtain ⟨hcs, hfit⟩ := hcond
          have hsz : v.cells.size = size := by omega
          obtain ⟨g1, g2⟩ := over_ok (I := I) (w := w) h1 h3 hz hzr off (by omega) _ rfl
          obtain ⟨c', f1, f2⟩ := fill_ok hpl parts ps _ _ cells' g1 (fun q hq => (splice_mem hq).elim (hr.flat q) (h2 q)) g2 (by simpa using hl)
            (fun j h h' => by have := hp (j + 1) (by simp; omega) (by simp; omega); simpa using this) hf
          refine ⟨c', ?_, f2⟩
          have hcond2 : ¬ (v.cells.size ≠ size ∨ off + v.cells.size > c.size) := by omega
          simp only [Instr.fill, hpl i off size b hpi]
          rw [if_neg (by simpa using hcond2)]
          rw [fold_set v.cells off c (by omega)]
          exact f1
        · cases hf
      · cases hf

/-- The parts' values. -/
def evParts (a : Act) (parts : Array (Nat × Operand)) : Array (Nat × Value) := parts.map fun q => (q.1, a.eval q.2)

theorem parts_ok (h : Inv F g s a w) (parts : Array (Nat × Operand)) (j : Nat) (h1 : j < (evParts a parts).toList.length) (h2 : j < (parts.toList.map fun q => (q.1, (ev s.env q.2).bind SV.pv?)).length) :
    ((evParts a parts).toList[j]).1 = ((parts.toList.map fun q => (q.1, (ev s.env q.2).bind SV.pv?))[j]).1 ∧
    ∀ p, ((parts.toList.map fun q => (q.1, (ev s.env q.2).bind SV.pv?))[j]).2 = some p → Rep g.im w ((evParts a parts).toList[j]).2 p := by
  simp only [evParts, Array.getElem_toList, Array.getElem_map, List.getElem_map]
  exact ⟨trivial, fun p hp => evp_ok h hp⟩

theorem did_build {o : Oper} {t : TypeId} {parts : Array (Nat × Operand)} (h : Inv F g s a w) (hd : dstFits F.nt o.dst) (ho : o.op = .build t parts) (hfs : fldsP P t = true) {z cells : List PV} (hz : zeroP P t = some z)
    (hf : pfill (fldP P t) z (parts.toList.map fun q => (q.1, (ev s.env q.2).bind SV.pv?)) = some cells) : Did P F ((s.eff .none).put o.dst (.pv (.agg cells))) o a w := by
  obtain ⟨zv, z1, z2, z3, z4⟩ := zeroP_ok (I := g.im) (w := w) hz
  unfold fldsP at hfs
  split at hfs
  · rename_i fs hu
    have hall : ∀ f ∈ fs.toList, ∃ q, tyP P f.type = some q := fun f hf => Option.isSome_iff_exists.1 (List.all_eq_true.1 hfs f hf)
    have hpl : ∀ i of n b, fldP P t i = some (of, n, b) → (fs.map fun f => (f.offset, ((tyP P f.type).map (·.1)).getD 0))[i]? = some (of, n) := by
      intro i of n b hb
      obtain ⟨fs', fd, e1, e2, e3, e4⟩ := fldP_ok hb
      rw [hu] at e1; injection e1 with e1; injection e1 with e1; subst e1
      simp [e2, e3, e4]
    obtain ⟨c', f1, f2, f3, f4⟩ := fill_ok (I := g.im) (w := w) hpl (evParts a parts).toList _ zv.cells z cells z2 z3 z4 (by simp [evParts]) (parts_ok h parts) hf
    refine did_pure h hd (v := .agg c') ?_ (.pv (.agg c' cells f3 f2 f4))
    refine exec_v (sem := Instr.build t (evParts a parts)) (by simp [execOp, ho, evParts]) ?_
    have hm := mapMA_run (P := P) (w := w) (f := fun f : Field => (do pure (f.offset, ← sizeOf f.type) : Sem (Nat × Nat))) (r := fun f : Field => (f.offset, ((tyP P f.type).map (·.1)).getD 0)) fs (fun f hf => by
      obtain ⟨⟨n, b⟩, hq⟩ := hall f hf
      simp [(tyP_ok hq).2, hq])
    simp only [Instr.build, Sem.run_bind, z1, Result.andThen_ok, Sem.run_pure, run_underlying hu, hm, f1]
  · cases hfs

/-- Rows of a width, one behind the other. -/
def RowsAt (I : Nat → Nat) (w : World) (size : Nat) (c : Array Value) (rows : List (List PV)) : Prop :=
  c.size = rows.length * size ∧ (∀ x ∈ rows, x.length = size) ∧ (∀ x ∈ rows, ∀ p ∈ x, p.scalar = true) ∧
  ∀ i (h : i < rows.length) j (h' : j < (rows[i]).length), Rep I w (c.getD (i * size + j) undef) (rows[i])[j]

theorem row_lt {i j n size : Nat} (hi : i < n) (hj : j < size) : i * size + j < n * size := by
  calc i * size + j < i * size + size := by omega
    _ = (i + 1) * size := by rw [Nat.add_mul, Nat.one_mul]
    _ ≤ n * size := Nat.mul_le_mul_right _ hi

theorem rows_set {I : Nat → Nat} {size : Nat} {c : Array Value} {rows : List (List PV)} (h : RowsAt I w size c rows) {i : Nat} (hi : i < rows.length) {n : Array Value} {p : PV} (hr : Rep I w (.agg n) (.agg p.cells)) (hp : p.cells.length = size)
    : RowsAt I w size (c.toList.take (i * size) ++ n.toList ++ c.toList.drop (i * size + n.toList.length)).toArray (rows.set i p.cells) := by
  obtain ⟨h1, h2, h3, h4⟩ := h
  obtain ⟨ns, hn, hsz, hfl, hnr⟩ := rep_agg hr
  injection hn with hn; subst hn
  have hfit : i * size + size ≤ c.size := by
    rw [h1]
    calc i * size + size = (i + 1) * size := by rw [Nat.add_mul, Nat.one_mul]
      _ ≤ _ := Nat.mul_le_mul_right _ hi
  have hl : (c.toList.take (i * size) ++ n.toList ++ c.toList.drop (i * size + n.toList.length)).length = c.size := by simp; omega
  refine ⟨by rw [List.size_toArray, hl, h1, List.length_set], fun x hx => ?_, fun x hx => ?_, fun k hk j hj => ?_⟩
  · rcases List.mem_or_eq_of_mem_set hx with hx | rfl
    · exact h2 x hx
    · exact hp
  · rcases List.mem_or_eq_of_mem_set hx with hx | rfl
    · exact h3 x hx
    · exact hfl
  · rw [List.length_set] at hk
    have hkj : (rows.set i p.cells)[k]'(by simpa using hk) = if i = k then p.cells else rows[k] := List.getElem_set ..
    by_cases e : i = k
    · subst e
      simp only [List.getElem_set_self] at hj ⊢
      have hjn : j < n.size := by omega
      have e1 : (c.toList.take (i * size) ++ n.toList ++ c.toList.drop (i * size + n.toList.length)).toArray.getD (i * size + j) undef = n[j] := by
        have hlt : i * size + j < (c.toList.take (i * size) ++ n.toList ++ c.toList.drop (i * size + n.toList.length)).length := by rw [hl]; omega
        simp only [Array.getD_eq_getD_getElem?, List.getElem?_toArray, List.getElem?_eq_getElem hlt, Option.getD_some]
        rw [List.getElem_append_left (by simp; omega), List.getElem_append_right (by simp; omega)]
        simp only [List.length_take, Array.length_toList, Array.getElem_toList]
        congr 1; omega
      rw [e1]; exact hnr j hj hjn
    · simp only [List.getElem_set_ne e] at hj ⊢
      have hjs : j < size := by have := h2 _ (List.getElem_mem hk); omega
      have hlt2 : k * size + j < c.size := by rw [h1]; exact row_lt hk hjs
      have e1 : (c.toList.take (i * size) ++ n.toList ++ c.toList.drop (i * size + n.toList.length)).toArray.getD (k * size + j) undef = c.getD (k * size + j) undef := by
        have hlt : k * size + j < (c.toList.take (i * size) ++ n.toList ++ c.toList.drop (i * size + n.toList.length)).length := by rw [hl]; exact hlt2
        simp only [Array.getD_eq_getD_getElem?, List.getElem?_toArray, List.getElem?_eq_getElem hlt, Option.getD_some, Array.getElem?_eq_getElem hlt2]
        rcases Nat.lt_or_ge k i with hki | hki
        · have : k * size + j < i * size := row_lt hki hjs
          rw [List.getElem_append_left (by simp; omega), List.getElem_append_left (by simp; omega)]
          simp
        · have hge : (i + 1) * size ≤ k * size := Nat.mul_le_mul_right _ (by omega)
          rw [Nat.add_mul, Nat.one_mul] at hge
          rw [List.getElem_append_right (by simp; omega)]
          simp only [List.getElem_drop, List.length_append, List.length_take, Array.length_toList, Array.getElem_toList]
          congr 1; omega
      rw [e1]; exact h4 k hk j hj

theorem rep_asAgg {I : Nat → Nat} {v : Value} {p : PV} (h : Rep I w v p) : Rep I w (.agg v.cells) (.agg p.cells) := .agg _ _ h.flat h.cells.1 h.cells.2

theorem rows_fill {I : Nat → Nat} {size : Nat} : ∀ (parts : List (Nat × Value)) (ps : List (Nat × Option PV)) (c : Array Value) (rows rows' : List (List PV)), RowsAt I w size c rows → parts.length = ps.length →
    (∀ j (h : j < parts.length) (h' : j < ps.length), (parts[j]).1 = (ps[j]).1 ∧ ∀ p, (ps[j]).2 = some p → Rep I w (parts[j]).2 p) → prows size rows ps = some rows' →
    ∃ c', Instr.fill (fun i => some (i * size, size)) c parts = some c' ∧ RowsAt I w size c' rows' ∧ rows'.length = rows.length
  | [], [], c, rows, rows', h1, _, _, hf => by
    simp only [prows, Option.some.injEq] at hf; subst hf
    exact ⟨c, rfl, h1, rfl⟩
  | [], _ :: _, _, _, _, _, hl, _, _ => by simp at hl
  | _ :: _, [], _, _, _, _, hl, _, _ => by simp at hl
  | (i, v) :: parts, (i', q) :: ps, c, rows, rows', h1, hl, hp, hf => by
    obtain ⟨e0, hr0⟩ := hp 0 (by simp) (by simp)
    simp only [List.getElem_cons_zero] at e0 hr0
    subst e0
    cases q with
    | none => simp [prows] at hf
    | some p =>
      have hr := hr0 p rfl
      simp only [prows] at hf
      split at hf
      · rename_i hcond
        obtain ⟨hcs, hi⟩ := hcond
        have hz := hr.cells.1
        obtain ⟨c', f1, f2, f3⟩ := rows_fill parts ps _ _ rows' (rows_set h1 hi (rep_asAgg hr) hcs) (by simpa using hl) (fun j h h' => by have := hp (j + 1) (by simp; omega) (by simp; omega); simpa using this) hf
        refine ⟨c', ?_, f2, by simpa using f3⟩
        have hfit : i * size + size ≤ c.size := by
          rw [h1.1]
          calc i * size + size = (i + 1) * size := by rw [Nat.add_mul, Nat.one_mul]
            _ ≤ _ := Nat.mul_le_mul_right _ hi
        have hcond2 : ¬ (v.cells.size ≠ size ∨ i * size + v.cells.size > c.size) := by omega
        simp only [Instr.fill]
        rw [if_neg (by simpa using hcond2)]
        rw [fold_set v.cells (i * size) c (by omega)]
        exact f1
      · cases hf

/-- A slice over a whole new block. -/
theorem rep_rows {I : Nat → Nat} {size b cap : Nat} {c : Array Value} {t : TypeId} {fr : Nat × Nat} {rows : List (List PV)} (hb : w.heap[b]? = some (.cells c t fr)) (hI : rows.length * size ≤ I b) (hcap : rows.length ≤ cap) (hsz : rows.length * size ≤ c.size)
    (hw : ∀ x ∈ rows, x.length = size) (hs : ∀ x ∈ rows, ∀ p ∈ x, p.scalar = true) (hr : ∀ i (h : i < rows.length) j (h' : j < (rows[i]).length), Rep I w (c.getD (i * size + j) undef) (rows[i])[j]) :
    Rep I w (.slice (some ⟨b, 0, none⟩) rows.length cap) (.list rows) := by
  refine .list b 0 cap size rows (fun i j => c.getD (i * size + j) undef) hs hw (fun i hi => by omega) hcap (fun i j hi hj => ?_) hr
  rw [cell_of_heap hb]
  have : i * size + j < c.size := by have := row_lt hi hj; omega
  simp [this]

theorem buildSlice_run {o : Oper} {t e : TypeId} {n size bytes : Nat} {parts : Array (Nat × Operand)} (h : Inv F g s a w) (ho : o.op = .buildSlice t n parts) (he : elmP P t = some (e, size, bytes)) {z : List PV} {rows : List (List PV)}
    (hz : zeroP P e = some z) (hf : prows size (List.replicate n z) (parts.toList.map fun q => (q.1, (ev s.env q.2).bind SV.pv?)) = some rows) (h1 : z.length = size) (h2 : 0 < size) (h3 : n * size ≤ 16777216) :
    ∃ c' : Array Value, (execOp a.eval o).run P w = .ok (.value (.slice (some ⟨w.heap.size, 0, none⟩) rows.length rows.length)) (w.alloc (.cells c' e)) ∧ rows.length = n ∧ RowsAt g.im w size c' rows := by
  obtain ⟨zv, z1, z2, z3, z4⟩ := zeroP_ok (I := g.im) (w := w) hz
  obtain ⟨hu, inf, hi, his, hib⟩ := elmP_ok he
  have hz0 : 0 < zv.cells.size := by omega
  have h0 : RowsAt g.im w size ((Array.range (n * size)).map (zv.cells[· % zv.cells.size]!)) (List.replicate n z) := by
    refine ⟨by simp, fun x hx => by rw [List.eq_of_mem_replicate hx]; exact h1, fun x hx => by rw [List.eq_of_mem_replicate hx]; exact z3, fun i hi j hj => ?_⟩
    simp only [List.length_replicate] at hi
    simp only [List.getElem_replicate] at hj ⊢
    have hlt : i * size + j < n * size := row_lt hi (by omega)
    have hmod : (i * size + j) % zv.cells.size = j := by rw [show zv.cells.size = size by omega, Nat.mul_comm, Nat.mul_add_mod]; exact Nat.mod_eq_of_lt (by omega)
    have hj' : j < zv.cells.size := by omega
    have := z4 j hj hj'
    simpa [hlt, hmod, hj'] using this
  obtain ⟨c', f1, f2, f3⟩ := rows_fill (I := g.im) (w := w) (evParts a parts).toList _ _ _ rows h0 (by simp [evParts]) (parts_ok h parts) hf
  rw [List.length_replicate] at f3
  refine ⟨c', ?_, f3, f2⟩
  rw [f3]
  refine exec_v (sem := Instr.buildSlice t n (evParts a parts)) (by simp [execOp, ho, evParts]) ?_
  have hbig : ¬ n * size > 2 ^ 24 := by omega
  by_cases hn0 : n * size = 0
  · have hn : n = 0 := by rcases Nat.mul_eq_zero.1 hn0 with h | h <;> omega
    subst hn
    have f1' : Instr.fill (fun i => some (i * size, size)) #[] (evParts a parts).toList = some c' := by
      rw [Nat.zero_mul, Array.range_zero', Array.map_empty] at f1
      exact f1
    have hb0 : ¬ (0 : Nat) > 2 ^ 24 := by omega
    simp only [Instr.buildSlice, Sem.run_bind, run_underlying hu, Result.andThen_ok, sizeOf, typeInfo, run_program, hi, Sem.run_pure, his, Nat.zero_mul, hb0, if_false, if_true, Array.range_zero', Array.map_empty, f1', newRow, run_newObj,
      World.alloc_eq]
  · simp only [Instr.buildSlice, Sem.run_bind, run_underlying hu, Result.andThen_ok, sizeOf, typeInfo, run_program, hi, Sem.run_pure, his, hbig, if_false, hn0, z1, Sem.run_ite, f1, newRow, run_newObj, World.alloc_eq]

end
end Go.Proofs.YtbekdlgkoleblaaDoor
