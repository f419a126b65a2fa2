/- Each operation does what the pure one says (3): stores, what is built, places, numbers. -/
import Derived.Test.YtbekdlgkoleblaaDoorEngE
import Derived.Lib.SliceRun
namespace Go.Proofs.YtbekdlgkoleblaaDoor

section
variable {P : Program} {F : Fr} {g : Gh} {s : PS} {a : Act} {w : World}

theorem splice_length {off : Nat} {new cells : List PV} (h : off + new.length ≤ cells.length) : (splice off new cells).length = cells.length := by
  simp [splice]; omega
theorem splice_get {off : Nat} {new cells : List PV} (h : off + new.length ≤ cells.length) (i : Nat) (hi : i < (splice off new cells).length) :
    (splice off new cells)[i] = if hn : off ≤ i ∧ i < off + new.length then new[i - off]'(by omega) else cells[i]'(by rw [splice_length h] at hi; exact hi) := by
  have hc : i < cells.length := by rw [splice_length h] at hi; exact hi
  simp only [splice]
  split
  · rename_i hn
    rw [List.getElem_append_left (by simp; omega), List.getElem_append_right (by simp; omega)]
    simp only [List.length_take]
    congr 1
    omega
  · rename_i hn
    rcases Nat.lt_or_ge i off with h1 | h1
    · rw [List.getElem_append_left (by simp; omega), List.getElem_append_left (by simp; omega)]
      simp
    · rw [List.getElem_append_right (by simp; omega)]
      simp only [List.getElem_drop, List.length_append, List.length_take]
      congr 1
      omega
theorem splice_mem {off : Nat} {new cells : List PV} {p : PV} (h : p ∈ splice off new cells) : p ∈ new ∨ p ∈ cells := by
  simp only [splice, List.mem_append] at h
  rcases h with (h | h) | h
  · exact .inr (List.mem_of_mem_take h)
  · exact .inl h
  · exact .inr (List.mem_of_mem_drop h)

/-- A row of cells, some of which are put over. -/
theorem over_ok {I : Nat → Nat} {c : Array Value} {cells : List PV} (hc : c.size = cells.length) (hr : ∀ i (h : i < cells.length) (h' : i < c.size), Rep I w c[i] cells[i])
    {n : Array Value} {new : List PV} (hn : n.size = new.length) (hrn : ∀ i (h : i < new.length) (h' : i < n.size), Rep I w n[i] new[i]) (off : Nat) (hfit : off + new.length ≤ cells.length)
    (c' : Array Value) (hc' : c' = (c.toList.take off ++ n.toList ++ c.toList.drop (off + n.toList.length)).toArray) :
    c'.size = (splice off new cells).length ∧ ∀ i (h : i < (splice off new cells).length) (h' : i < c'.size), Rep I w c'[i] (splice off new cells)[i] := by
  subst hc'
  have hl : (c.toList.take off ++ n.toList ++ c.toList.drop (off + n.toList.length)).length = c.size := by simp; omega
  refine ⟨by rw [List.size_toArray, hl, splice_length hfit, hc], fun i h h' => ?_⟩
  rw [splice_get hfit i h]
  have hi : i < c.size := by rw [List.size_toArray, hl] at h'; exact h'
  split
  · rename_i hin
    have h2 : i - off < n.size := by omega
    have := hrn (i - off) (by omega) h2
    have e : (c.toList.take off ++ n.toList ++ c.toList.drop (off + n.toList.length)).toArray[i] = n[i - off] := by
      simp only [List.getElem_toArray]
      rw [List.getElem_append_left (by simp; omega), List.getElem_append_right (by simp; omega)]
      simp only [List.length_take, Array.length_toList, Array.getElem_toList]
      congr 1; omega
    rw [e]; exact this
  · rename_i hout
    have := hr i (by omega) hi
    have e : (c.toList.take off ++ n.toList ++ c.toList.drop (off + n.toList.length)).toArray[i] = c[i] := by
      simp only [List.getElem_toArray]
      rcases Nat.lt_or_ge i off with h1 | h1
      · rw [List.getElem_append_left (by simp; omega), List.getElem_append_left (by simp; omega)]; simp
      · rw [List.getElem_append_right (by simp; omega)]
        simp only [List.getElem_drop, List.length_append, List.length_take, Array.length_toList, Array.getElem_toList]
        congr 1; omega
    rw [e]; exact this

/-- The same, where there are more cells behind them. -/
theorem over_le {I : Nat → Nat} {c : Array Value} {cells : List PV} (hc : cells.length ≤ c.size) (hr : ∀ i (h : i < cells.length) (h' : i < c.size), Rep I w c[i] cells[i])
    {n : Array Value} {new : List PV} (hn : n.size = new.length) (hrn : ∀ i (h : i < new.length) (h' : i < n.size), Rep I w n[i] new[i]) (off : Nat) (hfit : off + new.length ≤ cells.length)
    (c' : Array Value) (hc' : c' = (c.toList.take off ++ n.toList ++ c.toList.drop (off + n.toList.length)).toArray) :
    (splice off new cells).length ≤ c'.size ∧ ∀ i (h : i < (splice off new cells).length) (h' : i < c'.size), Rep I w c'[i] (splice off new cells)[i] := by
  subst hc'
  have hl : (c.toList.take off ++ n.toList ++ c.toList.drop (off + n.toList.length)).length = c.size := by simp; omega
  refine ⟨by rw [List.size_toArray, hl, splice_length hfit]; exact hc, fun i h h' => ?_⟩
  have hil : i < cells.length := by rw [splice_length hfit] at h; exact h
  rw [splice_get hfit i h]
  have hi : i < c.size := by rw [List.size_toArray, hl] at h'; exact h'
  split
  · rename_i hin
    have h2 : i - off < n.size := by omega
    have := hrn (i - off) (by omega) h2
    have e : (c.toList.take off ++ n.toList ++ c.toList.drop (off + n.toList.length)).toArray[i] = n[i - off] := by
      simp only [List.getElem_toArray]
      rw [List.getElem_append_left (by simp; omega), List.getElem_append_right (by simp; omega)]
      simp only [List.length_take, Array.length_toList, Array.getElem_toList]
      congr 1; omega
    rw [e]; exact this
  · rename_i hout
    have := hr i hil hi
    have e : (c.toList.take off ++ n.toList ++ c.toList.drop (off + n.toList.length)).toArray[i] = c[i] := by
      simp only [List.getElem_toArray]
      rcases Nat.lt_or_ge i off with h1 | h1
      · rw [List.getElem_append_left (by simp; omega), List.getElem_append_left (by simp; omega)]; simp
      · rw [List.getElem_append_right (by simp; omega)]
        simp only [List.getElem_drop, List.length_append, List.length_take, Array.length_toList, Array.getElem_toList]
        congr 1; omega
    rw [e]; exact this

theorem did_store {o : Oper} {t : TypeId} {x y : Operand} (h : Inv F g s a w) (ho : o.op = .store t x y) (hdst : o.dst = none) {size off d : Nat} {ag : Bool} (ht : tyP P t = some (size, ag)) (hx : ev s.env x = some (.loc d off))
    {p : PV} (hp : (ev s.env y).bind SV.pv? = some p) {cells : List PV} (hl : s.loc d = some cells) (h1 : p.cells.length = size) (h2 : off + size ≤ cells.length) :
    Did P F ((s.eff (.loc d (splice off p.cells cells))).put o.dst .undef) o a w := by
  have hv := ev_ok h hx
  generalize hval : a.eval x = val at hv
  have hrep := evp_ok h hp
  cases hv with
  | loc d off b hb =>
    obtain ⟨_, _, _, cells', c, tt, e1, e2, e3, hs, e4⟩ := h.locs d b hb
    rw [hl] at e1; injection e1 with e1; subst e1
    obtain ⟨hz, hzr⟩ := hrep.cells
    have hone : ∀ v ∈ (a.eval y).cells.toList, v.oneCell' = true := by
      intro v hv
      obtain ⟨i, hi, rfl⟩ := List.mem_iff_getElem.1 hv
      have hi' : i < (a.eval y).cells.size := by simpa using hi
      have := hzr i (by omega) hi'
      simpa using this.scalar (hrep.flat _ (List.getElem_mem _))
    have hrun := run_storeCells_at P b off tt (a.eval y).cells.toList 0 c w e2 (by simp; omega) hone
    obtain ⟨hc', hr'⟩ := over_le (I := g.im) (w := w) e3 e4 hz hzr off (by omega) _ rfl
    have hn := h.setLoc d b hb _ _ hc' (fun q hq => (splice_mem hq).elim (hrep.flat q) (hs q)) hr'
    simp only [Nat.add_zero] at hrun
    refine ⟨g, _, .inr (And.intro (b := Inv F g _ _ (w.setRow b _)) ?_ (by rw [hdst]; exact hn))⟩
    · have hzz : (a.eval y).cells.size = size := by omega
      simp only [execOp, ho, Instr.storeAt, hval, Instr.sureAddr, storeVar, Sem.run_bind, Sem.run_pure, Result.andThen_ok, (tyP_ok ht).2, hzz, ne_eq, not_true_eq_false, if_false, hrun]

theorem did_nilCheck {o : Oper} {x : Operand} (h : Inv F g s a w) (hd : dstFits F.nt o.dst) (ho : o.op = .nilCheck x) {v : SV} (he : ev s.env x = some v) (hk : (∃ c o, v = .pv (.ref c o)) ∨ (∃ d o, v = .loc d o) ∨ ∃ k o, v = .mtr k o) :
    Did P F ((s.eff .none).put o.dst v) o a w := by
  have hv := ev_ok h he
  refine did_pure h hd (v := a.eval x) ?_ hv
  have : ∃ ad, a.eval x = .pointer (some ad) := by
    rcases hk with ⟨c, o, rfl⟩ | ⟨d, o, rfl⟩ | ⟨k, o, rfl⟩
    · obtain ⟨b, off, e⟩ := rep_ref (srel_pv hv); exact ⟨_, e⟩
    · generalize a.eval x = val at hv; cases hv; exact ⟨_, rfl⟩
    · generalize a.eval x = val at hv; cases hv; exact ⟨_, rfl⟩
  obtain ⟨ad, e⟩ := this
  simp [execOp, ho, e]

theorem pair_inv {I : Nat → Nat} {v : Value} {x y : Int} (h : Rep I w v (.agg [.int .i64 x, .int .i64 y])) : v = .agg #[.int .i64 x, .int .i64 y] := by
  obtain ⟨cs, rfl, hs, _, hr⟩ := rep_agg h
  have h0 := rep_int (hr 0 (by simp) (by rw [hs]; simp))
  have h1 := rep_int (hr 1 (by simp) (by rw [hs]; simp))
  have : cs = #[cs[0]'(by rw [hs]; simp), cs[1]'(by rw [hs]; simp)] := by
    apply Array.ext
    · simpa using hs
    · intro i h1 h2
      have : i < 2 := by simpa using h2
      match i, this with
      | 0, _ => rfl
      | 1, _ => rfl
  rw [this, h0, h1]

theorem beq_bytes (x y : ByteArray) : (x.toList == y.toList) = (x.data.toList == y.data.toList) := by rw [ByteArray.toList_eq, ByteArray.toList_eq]

theorem rep_cons {I : Nat → Nat} {v : Value} {x : List PV} {xs : List (List PV)} (h : Rep I w v (.list (x :: xs))) : ∃ ad cap, v = .slice (some ad) (xs.length + 1) cap ∧ xs.length + 1 ≤ cap := by
  generalize hq : x :: xs = ys at h
  cases h with
  | nil => cases hq
  | empty => cases hq
  | list b o cap es xs vs hs h0 h2 hcap h3 h4 => subst hq; exact ⟨_, _, rfl, hcap⟩

theorem pbin_ok {I : Nat → Nat} {op : BinOp} {t : TypeId} {p q r : PV} {c : Prop} {u v : Value} {x y : Operand} (hb : pbin P op t p q = some (c, r)) (hc : c) (hu : Rep I w u p) (hv : Rep I w v q) :
    ∃ z, (do eqGuard op t x y u v; binOp op t u v).run P w = .ok z w ∧ Rep I w z r := by
  unfold pbin at hb
  split at hb
  · rename_i k n k' m
    cases hu; cases hv
    split at hb
    · rename_i hkk; subst hkk
      split at hb <;> first | cases hb | (injection hb with hb; injection hb with h1 h2; subst h1; subst h2)
      all_goals first
        | (refine ⟨_, ?_, .int _ _⟩; simp only [eqGuard_at_int, binOp_add, binOp_sub, binOp_mul, Op.intArith, Sem.run_bind, Sem.run_pure, Result.andThen_ok]; done)
        | (refine ⟨_, ?_, .bool _⟩; simp only [eqGuard_at_int, binOp_eql, binOp_neq, binOp_lss, binOp_leq, binOp_gtr, binOp_geq, Sem.run_bind, Sem.run_pure, Result.andThen_ok]; done)
        | (refine ⟨_, ?_, .int _ _⟩; simp only [eqGuard_at_int, binOp_quo, binOp_rem, Op.intDiv, if_neg hc, Sem.run_bind, Sem.run_pure, Result.andThen_ok]; done)
    · cases hb
  · cases hu; cases hv
    split at hb <;> first | cases hb | (injection hb with hb; injection hb with h1 h2; subst h1; subst h2)
    · exact ⟨_, by simp only [eqGuard_at_bool, Sem.run_bind, Sem.run_pure, Result.andThen_ok, run_eql_bool w t _ _ hc], .bool _⟩
    · exact ⟨_, by simp only [eqGuard_at_bool, Sem.run_bind, Sem.run_pure, Result.andThen_ok, run_neq_bool w t _ _ hc], .bool _⟩
  · obtain ⟨s1, rfl, rfl⟩ := rep_str hu
    obtain ⟨s2, rfl, rfl⟩ := rep_str hv
    split at hb <;> first | cases hb | (injection hb with hb; injection hb with h1 h2; subst h1; subst h2)
    · refine ⟨.string (s1 ++ s2), ?_, .str _ _ (by simp)⟩
      have hle : ¬ ((s1.size + s2.size : Nat) : Int) > IntKind.i64.max := by
        have : s1.size + s2.size ≤ 9223372036854775807 := hc
        rw [IntKind.max_i64]; omega
      simp only [eqGuard_at_string, binOp_string_add, Op.stringOp, Sem.run_bind, Sem.run_pure, Result.andThen_ok, if_neg hle]
    · refine ⟨_, ?_, .bool _⟩
      simp only [eqGuard_at_string, binOp_string_eql, Sem.run_bind, Sem.run_pure, Result.andThen_ok, beq_bytes]
    · refine ⟨_, ?_, .bool _⟩
      simp only [eqGuard_at_string, binOp_string_neq, Sem.run_bind, Sem.run_pure, Result.andThen_ok, beq_bytes]
  · cases hu; cases hv
    split at hb <;> first | cases hb | (injection hb with hb; injection hb with h1 h2; subst h1; subst h2)
    · exact ⟨_, by simp only [eqGuard_at_pointer, Sem.run_bind, Sem.run_pure, Result.andThen_ok, run_eql_pointer_nil w t _ hc]; rfl, by simpa using Rep.bool true⟩
    · exact ⟨_, by simp only [eqGuard_at_pointer, Sem.run_bind, Sem.run_pure, Result.andThen_ok, run_neq_pointer_nil w t _ hc]; rfl, by simpa using Rep.bool false⟩
  · obtain ⟨b, off, rfl⟩ := rep_ref hu
    cases hv
    split at hb <;> first | cases hb | (injection hb with hb; injection hb with h1 h2; subst h1; subst h2)
    · exact ⟨_, by simp only [eqGuard_at_pointer, Sem.run_bind, Sem.run_pure, Result.andThen_ok, run_eql_pointer_nil w t _ hc]; rfl, by simpa using Rep.bool false⟩
    · exact ⟨_, by simp only [eqGuard_at_pointer, Sem.run_bind, Sem.run_pure, Result.andThen_ok, run_neq_pointer_nil w t _ hc]; rfl, by simpa using Rep.bool true⟩
  · cases hu; cases hv
    split at hb <;> first | cases hb | (injection hb with hb; injection hb with h1 h2; subst h1; subst h2)
    obtain ⟨hc, rfl, rfl⟩ := hc
    exact ⟨_, by simp only [eqGuard_at_pointer, Sem.run_bind, Sem.run_pure, Result.andThen_ok, hc w], .bool _⟩
  · obtain rfl := pair_inv hu
    obtain rfl := pair_inv hv
    split at hb <;> first | cases hb | (injection hb with hb; injection hb with h1 h2; subst h1; subst h2)
    · exact ⟨_, (hc w x y _ _ _ _).1, .bool _⟩
    · exact ⟨_, (hc w x y _ _ _ _).2, .bool _⟩
  · cases hb

theorem did_binOp {o : Oper} {op : BinOp} {t t' : TypeId} {x y : Operand} (h : Inv F g s a w) (hd : dstFits F.nt o.dst) (ho : o.op = .binOp op t x y t') {p q r : PV} {c : Prop}
    (hp : (ev s.env x).bind SV.pv? = some p) (hq : (ev s.env y).bind SV.pv? = some q) (hb : pbin P op t p q = some (c, r)) (hc : c) : Did P F ((s.eff .none).put o.dst (.pv r)) o a w := by
  obtain ⟨z, hr, hrep⟩ := pbin_ok (x := x) (y := y) hb hc (evp_ok h hp) (evp_ok h hq)
  refine did_pure h hd (v := z) ?_ (.pv hrep)
  exact exec_v (by simp [execOp, ho]) hr

theorem nilC_eval {y : Operand} (h : nilC y = true) : a.eval y = .slice none 0 0 := by
  unfold nilC at h
  split at h
  · rfl
  · cases h

theorem sliceNil_eff {op : BinOp} {t : TypeId} {u : Option PV} {c : Prop} {v : SV} {e : Eff} (h : sliceNil P op t u = some (c, v, e)) : e = .none := by
  unfold sliceNil at h
  split at h
  · split at h
    · injection h with h; injection h with _ h; injection h with _ h; exact h.symm
    · cases h
  · cases h

theorem sliceNil_pv {op : BinOp} {t : TypeId} {u : Option PV} {c : Prop} {v : SV} {e : Eff} (h : sliceNil P op t u = some (c, v, e)) : ∃ p, v = .pv p := by
  unfold sliceNil at h
  split at h
  · split at h
    · injection h with h; injection h with _ h; injection h with h _; exact ⟨_, h.symm⟩
    · cases h
  · cases h

theorem did_sliceNil {o : Oper} {op : BinOp} {t t' : TypeId} {x y : Operand} (h : Inv F g s a w) (hd : dstFits F.nt o.dst) (ho : o.op = .binOp op t x y t') (hy : nilC y = true) {c : Prop} {v : SV} {e : Eff}
    (hs : sliceNil P op t ((ev s.env x).bind SV.pv?) = some (c, v, e)) (hc : c) : Did P F ((s.eff e).put o.dst v) o a w := by
  obtain rfl := sliceNil_eff hs
  unfold sliceNil at hs
  split at hs
  · rename_i r rs hx
    split at hs
    · injection hs with hs; injection hs with h1 h2; injection h2 with h2 h3; subst h1; subst h2
      obtain ⟨el, he⟩ := hc
      obtain ⟨ad, cap, e1, _⟩ := rep_cons (evp_ok h hx)
      refine did_pure h hd (v := .bool false) (exec_v (sem := do eqGuard .eql t x y (a.eval x) (a.eval y); binOp .eql t (a.eval x) (a.eval y)) (by simp [execOp, ho]) ?_) (.pv (.bool false))
      rw [e1, nilC_eval hy]
      have := Lib.run_eql_slice_nil (P := P) w t el (some ad) (rs.length + 1) cap 0 0 he
      simp only [eqGuard_at_slice, Sem.run_bind, Sem.run_pure, Result.andThen_ok, this]
      rfl
    · cases hs
  · cases hs

theorem did_not {o : Oper} {t : TypeId} {x : Operand} (h : Inv F g s a w) (hd : dstFits F.nt o.dst) (ho : o.op = .unOp .not t x) {b : Bool} (he : ev s.env x = some (.pv (.bool b))) : Did P F ((s.eff .none).put o.dst (.pv (.bool (!b)))) o a w := by
  refine did_pure h hd (v := .bool (!b)) ?_ (.pv (.bool _))
  simp [execOp, ho, rep_bool (srel_pv (ev_ok h he)), Op.unary]
theorem did_neg {o : Oper} {t : TypeId} {x : Operand} (h : Inv F g s a w) (hd : dstFits F.nt o.dst) (ho : o.op = .unOp .neg t x) {k : IntKind} {n : Int} (he : ev s.env x = some (.pv (.int k n))) : Did P F ((s.eff .none).put o.dst (.pv (.int k (k.wrap (0 - n))))) o a w := by
  refine did_pure h hd (v := .int k (k.wrap (0 - n))) ?_ (.pv (.int _ _))
  simp [execOp, ho, rep_int (srel_pv (ev_ok h he)), Op.unary, Op.intArith]
theorem did_convert {o : Oper} {src dst : TypeId} {x : Operand} (h : Inv F g s a w) (hd : dstFits F.nt o.dst) (ho : o.op = .convert src dst x) {ds : TypeDesc} {k k' : IntKind} {n : Int} (h1 : P.underlying src = some ds) (h2 : P.underlying dst = some (.int k))
    (he : ev s.env x = some (.pv (.int k' n))) : Did P F ((s.eff .none).put o.dst (.pv (.int k (k.wrap n)))) o a w := by
  refine did_pure h hd (v := .int k (k.wrap n)) ?_ (.pv (.int _ _))
  refine exec_v (sem := convert src dst (a.eval x)) (by simp [execOp, ho]) ?_
  rw [rep_int (srel_pv (ev_ok h he))]
  cases ds <;> simp [convert, run_underlying h1, run_underlying h2, Conv.intToInt]

theorem bytesOf_spec : ∀ {xs : List (List PV)} {l : List UInt8}, bytesOf xs = some l → ∃ ns : List Int, xs = ns.map (fun n => [PV.int .u8 n]) ∧ l = ns.map (fun n => UInt8.ofNat n.toNat)
  | [], l, h => by simp only [bytesOf, Option.some.injEq] at h; exact ⟨[], rfl, h.symm⟩
  | c :: rest, l, h => by
    unfold bytesOf at h
    split at h
    · rename_i heq; cases heq
    · rename_i n rest' heq
      injection heq with h1 h2
      subst h1; subst h2
      obtain ⟨l', h1, h2⟩ := Option.map_eq_some_iff.1 h
      obtain ⟨ns, rfl, rfl⟩ := bytesOf_spec h1
      exact ⟨n :: ns, rfl, h2.symm⟩
    · cases h
theorem push_bytes : ∀ (ns : List Int) (s : ByteArray), (ns.foldl (fun r n => r.push (UInt8.ofNat n.toNat)) s).data.toList = s.data.toList ++ ns.map (fun n => UInt8.ofNat n.toNat)
  | [], s => by simp
  | n :: ns, s => by
    rw [List.foldl_cons, push_bytes ns]
    simp [ByteArray.push]
theorem did_bytes {o : Oper} {src dst e : TypeId} {x : Operand} (h : Inv F g s a w) (hd : dstFits F.nt o.dst) (ho : o.op = .convert src dst x) (h1 : P.underlying src = some (.slice e)) (h2 : P.underlying dst = some .string) (h3 : P.underlying e = some (.int .u8))
    {xs : List (List PV)} {l : List UInt8} (he : (ev s.env x).bind SV.pv? = some (.list xs)) (hb : bytesOf xs = some l) : Did P F ((s.eff .none).put o.dst (.pv (.str l))) o a w := by
  obtain ⟨ns, rfl, rfl⟩ := bytesOf_spec hb
  have hr := evp_ok h he
  have key : ∃ b : ByteArray, (convert src dst (a.eval x)).run P w = .ok (.string b) w ∧ b.data.toList = ns.map (fun n => UInt8.ofNat n.toNat) := by
    generalize a.eval x = v at hr
    generalize hq : ns.map (fun n => [PV.int .u8 n]) = ys at hr
    cases hr with
    | nil =>
      rw [List.map_eq_nil_iff] at hq; subst hq
      exact ⟨.empty, by rw [run_convert_bytes_string w src dst e _ _ _ h1 h3 h2]; simp [Conv.bytesToString, Sem.run_pure], rfl⟩
    | empty ad cap =>
      rw [List.map_eq_nil_iff] at hq; subst hq
      exact ⟨_, by rw [run_convert_bytes_string w src dst e _ _ _ h1 h3 h2]; exact run_bytesToString w ad 0 cap [] (run_loadCells w ad 0 (fun _ => undef) (fun j hj => absurd hj (Nat.not_lt_zero j))), rfl⟩
    | list b o' cap es xs vs hs h0 h2' hcap h3' h4 =>
      subst hq
      have hl := run_loadCells_list (P := P) w ⟨b, o', none⟩ (ns.map (Value.int .u8)) fun j v hv => by
        have hadd : (⟨b, o', none⟩ : Addr).add j = ⟨b, o' + j, none⟩ := by unfold Addr.add; split <;> simp_all
        rw [hadd]
        obtain ⟨hj, rfl⟩ := List.getElem?_eq_some_iff.1 hv
        simp only [List.length_map] at hj
        have hes : es = 1 := (h0 [.int .u8 ns[j]] (List.mem_map.2 ⟨ns[j], List.getElem_mem hj, rfl⟩)).symm
        subst hes
        have hc := h3' j 0 (by simpa using hj) (by decide)
        have hj' : j < (ns.map fun n => [PV.int .u8 n]).length := by simpa using hj
        have e1 : (ns.map fun n => [PV.int .u8 n])[j] = [PV.int .u8 ns[j]] := List.getElem_map _
        have hr := h4 j hj' 0 (by rw [e1]; exact Nat.one_pos)
        have e2 : (ns.map fun n => [PV.int .u8 n])[j][0]'(by rw [e1]; exact Nat.one_pos) = PV.int .u8 ns[j] := by
          simp
        rw [e2] at hr
        rw [rep_int hr] at hc
        simpa using hc
      have hl' : (loadCells ⟨b, o', none⟩ (ns.map fun n => [PV.int .u8 n]).length).run P w = .ok (ns.map (Value.int .u8)).toArray w := by simpa using hl
      exact ⟨_, by rw [run_convert_bytes_string w src dst e _ _ _ h1 h3 h2]; exact run_bytesToString w ⟨b, o', none⟩ _ cap ns hl', (push_bytes ns .empty).trans (List.nil_append _)⟩
  obtain ⟨b, hb1, hb2⟩ := key
  exact did_pure h hd (v := .string b) (exec_v (sem := convert src dst (a.eval x)) (by simp [execOp, ho]) hb1) (.pv (.str b _ hb2))

theorem fldP_ok {t : TypeId} {f o size : Nat} {ag : Bool} (h : fldP P t f = some (o, size, ag)) : ∃ fs fd, P.underlying t = some (.struct fs) ∧ fs[f]? = some fd ∧ fd.offset = o ∧ tyP P fd.type = some (size, ag) := by
  unfold fldP at h
  split at h
  · rename_i fs hfs
    cases hf : fs[f]? with
    | none => rw [hf] at h; cases h
    | some fd =>
      rw [hf] at h
      simp only [Option.bind_some] at h
      obtain ⟨q, hq, he⟩ := Option.map_eq_some_iff.1 h
      simp only [Prod.mk.injEq] at he
      obtain ⟨rfl, rfl, rfl⟩ := he
      exact ⟨fs, fd, hfs, hf, rfl, hq⟩
  · cases h

theorem run_fieldAt {t : TypeId} {f o size : Nat} {ag : Bool} (h : fldP P t f = some (o, size, ag)) (hs : 0 < size) (b off : Nat) : (Instr.fieldAt t (.pointer (some ⟨b, off, none⟩)) f).run P w = .ok (.pointer (some ⟨b, off + o, none⟩)) w := by
  obtain ⟨fs, fd, h1, h2, rfl, h4⟩ := fldP_ok h
  have hadd : (⟨b, off, none⟩ : Addr).add fd.offset = ⟨b, off + fd.offset, none⟩ := by unfold Addr.add; split <;> simp_all
  have hne : ¬ size = 0 := by omega
  simp [Instr.fieldAt, run_underlying h1, h2, Instr.sureAddr, fieldPlace, (tyP_ok h4).2, hne, hadd]

theorem did_fieldLoc {o : Oper} {t : TypeId} {x : Operand} {f : Nat} (h : Inv F g s a w) (hd : dstFits F.nt o.dst) (ho : o.op = .fieldAddr t x f) {fo size : Nat} {ag : Bool} (hf : fldP P t f = some (fo, size, ag)) (hs : 0 < size) {d off : Nat}
    (he : ev s.env x = some (.loc d off)) : Did P F ((s.eff .none).put o.dst (.loc d (off + fo))) o a w := by
  have hv := ev_ok h he
  generalize hval : a.eval x = val at hv
  cases hv with
  | loc d off b hb =>
    refine did_pure h hd (v := .pointer (some ⟨b, off + fo, none⟩)) ?_ (.loc d _ b hb)
    exact exec_v (by simp [execOp, ho, hval]) (run_fieldAt hf hs b off)

theorem did_fieldMtr {o : Oper} {t : TypeId} {x : Operand} {f : Nat} (h : Inv F g s a w) (hd : dstFits F.nt o.dst) (ho : o.op = .fieldAddr t x f) {fo size : Nat} {ag : Bool} (hf : fldP P t f = some (fo, size, ag)) (hs : 0 < size) {k off : Nat}
    (he : ev s.env x = some (.mtr k off)) : Did P F ((s.eff .none).put o.dst (.mtr k (off + fo))) o a w := by
  have hv := ev_ok h he
  generalize hval : a.eval x = val at hv
  cases hv with
  | mtr k off b hb =>
    refine did_pure h hd (v := .pointer (some ⟨b, off + fo, none⟩)) ?_ (.mtr k _ b hb)
    exact exec_v (by simp [execOp, ho, hval]) (run_fieldAt hf hs b off)

theorem some_ptr (h : Inv F g s a w) {x : Operand} {p : Ptr} (he : ev s.env x = some p.sv) : ∃ ad, a.eval x = .pointer (some ad) := by
  have hv := ev_ok h he
  cases p with
  | ref c o => obtain ⟨b, off, e⟩ := rep_ref (srel_pv hv); exact ⟨_, e⟩
  | loc d o => simp only [Ptr.sv] at hv; generalize a.eval x = val at hv; cases hv; exact ⟨_, rfl⟩
  | mtr k o => simp only [Ptr.sv] at hv; generalize a.eval x = val at hv; cases hv; exact ⟨_, rfl⟩

theorem did_ptrNil {o : Oper} {op : BinOp} {t t' : TypeId} {x y : Operand} (h : Inv F g s a w) (hd : dstFits F.nt o.dst) (ho : o.op = .binOp op t x y t') {p : Ptr} (hx : ev s.env x = some p.sv) (hy : (ev s.env y).bind SV.pv? = some .nilp)
    (ht : P.underlying t = some (.pointer (P.pointee t))) : (op = .eql → Did P F ((s.eff .none).put o.dst (.pv (.bool false))) o a w) ∧ (op = .neq → Did P F ((s.eff .none).put o.dst (.pv (.bool true))) o a w) := by
  obtain ⟨ad, hval⟩ := some_ptr h hx
  have hny := rep_nilp (evp_ok h hy)
  refine ⟨fun e => ?_, fun e => ?_⟩
  · subst e
    refine did_pure h hd (v := .bool false) ?_ (.pv (.bool _))
    refine exec_v (sem := do eqGuard .eql t x y (a.eval x) (a.eval y); binOp .eql t (a.eval x) (a.eval y)) (by simp [execOp, ho]) ?_
    rw [hval, hny]
    simp only [eqGuard_at_pointer, Sem.run_bind, Sem.run_pure, Result.andThen_ok, run_eql_pointer_nil w t _ ht]
    rfl
  · subst e
    refine did_pure h hd (v := .bool true) ?_ (.pv (.bool _))
    refine exec_v (sem := do eqGuard .neq t x y (a.eval x) (a.eval y); binOp .neq t (a.eval x) (a.eval y)) (by simp [execOp, ho]) ?_
    rw [hval, hny]
    simp only [eqGuard_at_pointer, Sem.run_bind, Sem.run_pure, Result.andThen_ok, run_neq_pointer_nil w t _ ht]
    rfl

theorem Rep.moved {I : Nat → Nat} {b o off : Nat} {cells : List PV} (h : Rep I w (.pointer (some ⟨b, o, none⟩)) (.ref cells off)) (n : Nat) : Rep I w (.pointer (some ⟨b, o + n, none⟩)) (.ref cells (off + n)) := by
  cases h with
  | ref b o off cells vs hs h1 h2 h3 h4 =>
    have e : o + n - (off + n) = o - off := by omega
    exact .ref b (o + n) (off + n) cells vs hs (by omega) (by rw [e]; exact h2) (by rw [e]; exact h3) h4

theorem did_fieldRef {o : Oper} {t : TypeId} {x : Operand} {f : Nat} (h : Inv F g s a w) (hd : dstFits F.nt o.dst) (ho : o.op = .fieldAddr t x f) {fo size : Nat} {ag : Bool} (hf : fldP P t f = some (fo, size, ag)) (hs : 0 < size) {cells : List PV} {off : Nat}
    (he : ev s.env x = some (.pv (.ref cells off))) : Did P F ((s.eff .none).put o.dst (.pv (.ref cells (off + fo)))) o a w := by
  have hv := srel_pv (ev_ok h he)
  obtain ⟨b, of', hval⟩ := rep_ref hv
  rw [hval] at hv
  refine did_pure h hd (v := .pointer (some ⟨b, of' + fo, none⟩)) ?_ (.pv (hv.moved fo))
  exact exec_v (by simp [execOp, ho, hval]) (run_fieldAt hf hs b of')

theorem part_ok {I : Nat → Nat} {t : TypeId} {size off : Nat} {ag : Bool} (ht : tyP P t = some (size, ag)) {cs : Array Value} {cells : List PV} (hsz : cs.size = cells.length) (hs : ∀ p ∈ cells, p.scalar = true)
    (hr : ∀ i (h : i < cells.length) (h' : i < cs.size), Rep I w cs[i] cells[i]) {p : PV} (hp : partOf ag off size cells = some p) : ∃ v, (part t cs off).run P w = .ok v w ∧ Rep I w v p := by
  obtain ⟨ha, hz⟩ := tyP_ok ht
  unfold partOf at hp
  cases ag with
  | true =>
    simp only [if_true] at hp
    split at hp
    · rename_i hle
      injection hp with hp; subst hp
      refine ⟨.agg (cs.extract off (off + size)), by simp [part, ha, hz], .agg _ _ (fun c hc => hs c (List.mem_of_mem_drop (List.mem_of_mem_take hc))) (by simp; omega) fun i h h' => ?_⟩
      have hi : i < size := by simp at h; omega
      have := hr (off + i) (by omega) (by omega)
      simpa using this
    · cases hp
  | false =>
    simp only [Bool.false_eq_true, if_false] at hp
    obtain ⟨hlt, rfl⟩ := List.getElem?_eq_some_iff.1 hp
    have hlt' : off < cs.size := by omega
    exact ⟨cs[off], by simp [part, ha, hlt'], hr off hlt hlt'⟩

theorem did_field {o : Oper} {t : TypeId} {x : Operand} {f : Nat} (h : Inv F g s a w) (hd : dstFits F.nt o.dst) (ho : o.op = .field t x f) {fo size : Nat} {ag : Bool} (hf : fldP P t f = some (fo, size, ag)) {cells : List PV}
    (he : ev s.env x = some (.pv (.agg cells))) {p : PV} (hp : partOf ag fo size cells = some p) : Did P F ((s.eff .none).put o.dst (.pv p)) o a w := by
  obtain ⟨cs, hval, hsz, hs, hr⟩ := rep_agg (srel_pv (ev_ok h he))
  obtain ⟨fs, fd, h1, h2, rfl, h4⟩ := fldP_ok hf
  obtain ⟨v, hrun, hrep⟩ := part_ok h4 hsz hs hr hp
  refine did_pure h hd (v := v) ?_ (.pv hrep)
  refine exec_v (sem := Instr.field t (a.eval x) f) (by simp [execOp, ho]) ?_
  simp [Instr.field, run_underlying h1, h2, hval, asAgg, hrun]

theorem did_extract {o : Oper} {x : Operand} {i : Nat} (h : Inv F g s a w) (hd : dstFits F.nt o.dst) (ho : o.op = .extract x i) {vs : List SV} (he : ev s.env x = some (.tup vs)) {v : SV} (hv : vs[i]? = some v) : Did P F ((s.eff .none).put o.dst v) o a w := by
  have hr := ev_ok h he
  generalize hval : a.eval x = val at hr
  cases hr with
  | tup us vs hsz h4 =>
    obtain ⟨hi, rfl⟩ := List.getElem?_eq_some_iff.1 hv
    have hi' : i < us.size := by omega
    refine did_pure h hd (v := us[i]) ?_ (h4 i hi hi')
    refine exec_v (sem := Instr.extract (a.eval x) i) (by simp [execOp, ho]) ?_
    simp [Instr.extract, hval, hi']

end
end Go.Proofs.YtbekdlgkoleblaaDoor
