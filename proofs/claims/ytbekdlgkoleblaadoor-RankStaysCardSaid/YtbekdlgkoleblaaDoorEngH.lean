/- Each operation does what the pure one says (5): rows that are read, and cut; append. -/
import Derived.Test.YtbekdlgkoleblaaDoorEngG
namespace Go.Proofs.YtbekdlgkoleblaaDoor

section
variable {P : Program} {F : Fr} {g : Gh} {s : PS} {a : Act} {w : World}

theorem elem_of {t e : TypeId} (h : P.underlying t = some (.slice e)) : P.underlying t = some (.slice (P.elem t)) ∧ P.elem t = e := by
  have : P.elem t = e := by simp [Program.elem, h]
  exact ⟨by rw [this]; exact h, this⟩

theorem size_run {e : TypeId} {i : TypeInfo} (hi : P.info? e = some i) (w : World) : (sizeOf e).run P w = .ok i.size w := by simp [sizeOf, typeInfo, hi]

theorem rep_elem {I : Nat → Nat} {b o cap n size : Nat} {xs : List (List PV)} (h : Rep I w (.slice (some ⟨b, o, none⟩) n cap) (.list xs)) (hw : Wide size xs) (i : Nat) (hi : i < xs.length) :
    Rep I w (.pointer (some ⟨b, o + i * size, none⟩)) (.ref (xs[i]) 0) := by
  cases h with
  | empty a cap => simp at hi
  | list b o cap es xs vs hs h0 h2 hcap h3 h4 =>
    have hes : es = size := by rw [← h0 _ (List.getElem_mem hi)]; exact hw _ (List.getElem_mem hi)
    subst hes
    have hl := h0 _ (List.getElem_mem hi)
    have hlt : i * es + es ≤ xs.length * es := by
      calc i * es + es = (i + 1) * es := by rw [Nat.add_mul, Nat.one_mul]
        _ ≤ _ := Nat.mul_le_mul_right _ hi
    refine .ref b (o + i * es) 0 xs[i] (fun j => vs i j) (hs _ (List.getElem_mem hi)) (Nat.zero_le _) (fun j hj => by have := h2 (i * es + j) (by omega); omega) (fun j hj => ?_) fun j hj => h4 i hi j hj
    rw [← h3 i j hi (by omega)]; congr 2; omega

theorem did_indexAddr {o : Oper} {t e : TypeId} {x ix : Operand} {size bytes : Nat} (h : Inv F g s a w) (hd : dstFits F.nt o.dst) (ho : o.op = .indexAddr t x ix) (he : elmP P t = some (e, size, bytes)) {xs : List (List PV)} {k : IntKind} {i : Int}
    (hx : (ev s.env x).bind SV.pv? = some (.list xs)) (hix : ev s.env ix = some (.pv (.int k i))) (hi : pidx i xs.length) (hw : Wide size xs) : Did P F ((s.eff .none).put o.dst (.pv (.ref (xs.getD i.toNat []) 0))) o a w := by
  obtain ⟨hu, inf, hin, his, _⟩ := elmP_ok he
  obtain ⟨hu', hel⟩ := elem_of hu
  have hr := evp_ok h hx
  have hii := rep_int (srel_pv (ev_ok h hix))
  obtain ⟨h0, h1⟩ := hi
  have hlt : i.toNat < xs.length := by omega
  generalize hval : a.eval x = val at hr
  cases hr with
  | nil => simp at hlt
  | empty a cap => simp at hlt
  | list b of' cap es xs vs hs g0 g2 hcap g3 g4 =>
    have hrep := rep_elem (.list b of' cap es xs vs hs g0 g2 hcap g3 g4) hw i.toNat hlt
    refine did_pure h hd (v := .pointer (some ⟨b, of' + i.toNat * size, none⟩)) ?_ (.pv (by simpa [hlt] using hrep))
    refine exec_v (sem := Instr.indexAt t (a.eval x) (a.eval ix)) (by simp [execOp, ho]) ?_
    have hadd : (⟨b, of', none⟩ : Addr).add (i.toNat * size) = ⟨b, of' + i.toNat * size, none⟩ := by unfold Addr.add; split <;> simp_all
    rw [hval, hii, run_indexAt_slice w t _ _ _ k i hu', if_pos ⟨h0, by omega⟩, hel, size_run hin]
    simp [his, hadd]

theorem lrowIn_eq {v : Option SV} {q : Nat × Nat} (h : lrowIn v = some q) : v = some (.lrow q.1 q.2) := by
  unfold lrowIn at h
  split at h
  · injection h with h; subst h; rfl
  · cases h
theorem did_indexLrow {o : Oper} {t e : TypeId} {x ix : Operand} {size bytes : Nat} (h : Inv F g s a w) (hd : dstFits F.nt o.dst) (ho : o.op = .indexAddr t x ix) (he : elmP P t = some (e, size, bytes)) {q : Nat × Nat} {k : IntKind} {i : Int}
    (hx : lrowIn (ev s.env x) = some q) (hix : ev s.env ix = some (.pv (.int k i))) (hi : pidx i q.2) : Did P F ((s.eff .none).put o.dst (.loc q.1 (i.toNat * size))) o a w := by
  obtain ⟨hu, inf, hin, his, _⟩ := elmP_ok he
  obtain ⟨hu', hel⟩ := elem_of hu
  have hr := ev_ok h (lrowIn_eq hx)
  have hii := rep_int (srel_pv (ev_ok h hix))
  obtain ⟨h0, h1⟩ := hi
  obtain ⟨d, n⟩ := q
  generalize hval : a.eval x = val at hr
  cases hr with
  | lrow d n b cap hb =>
    refine did_pure h hd (v := .pointer (some ⟨b, i.toNat * size, none⟩)) ?_ (.loc d _ b hb)
    refine exec_v (sem := Instr.indexAt t (a.eval x) (a.eval ix)) (by simp [execOp, ho]) ?_
    have hadd : (⟨b, 0, none⟩ : Addr).add (i.toNat * size) = ⟨b, i.toNat * size, none⟩ := by unfold Addr.add; split <;> simp_all
    rw [hval, hii, run_indexAt_slice w t _ _ _ k i hu', if_pos ⟨h0, by simp only at h1; omega⟩, hel, size_run hin]
    simp [his, hadd]

theorem did_index {o : Oper} {t : TypeId} {x ix : Operand} (h : Inv F g s a w) (hd : dstFits F.nt o.dst) (ho : o.op = .index t x ix) (ht : P.underlying t = some .string) {l : List UInt8} {k : IntKind} {i : Int}
    (hx : ev s.env x = some (.pv (.str l))) (hix : ev s.env ix = some (.pv (.int k i))) (hi : pidx i l.length) : Did P F ((s.eff .none).put o.dst (.pv (.int .u8 ((l.getD i.toNat 0).toNat : Int)))) o a w := by
  obtain ⟨sb, hval, hl⟩ := rep_str (srel_pv (ev_ok h hx))
  have hii := rep_int (srel_pv (ev_ok h hix))
  obtain ⟨h0, h1⟩ := hi
  have hsz : sb.size = l.length := by rw [← hl]; simp
  have hlt : i.toNat < sb.size := by omega
  have hb : (l.getD i.toNat 0) = sb[i.toNat] := by
    subst hl
    have : i.toNat < sb.data.toList.length := by simpa using hlt
    simp only [List.getD_eq_getElem?_getD, List.getElem?_eq_getElem this, Option.getD_some, Array.getElem_toList]
    rfl
  refine did_pure h hd (v := .int .u8 ((l.getD i.toNat 0).toNat : Int)) ?_ (.pv (.int _ _))
  refine exec_v (sem := Instr.index t (a.eval x) (a.eval ix)) (by simp [execOp, ho]) ?_
  rw [hval, hii, hb]
  simp [Instr.index, run_underlying ht, asIntOf, h0, hlt]

/-- The same row, cut. -/
theorem rep_cut {I : Nat → Nat} {v : Value} {xs : List (List PV)} (h : Rep I w v (.list xs)) {size : Nat} (hw : Wide size xs) (l m : Nat) (hl : l ≤ m) (hm : m ≤ xs.length) :
    ∃ ad n cap, v = .slice ad n cap ∧ n = xs.length ∧ m ≤ cap ∧ Rep I w (.slice (if cap = l then ad else ad.map (·.add (l * size))) (m - l) (cap - l)) (.list ((xs.take m).drop l)) := by
  cases h with
  | nil =>
    obtain rfl : m = 0 := by simpa using hm
    obtain rfl : l = 0 := by omega
    exact ⟨none, 0, 0, rfl, rfl, Nat.le_refl _, by simpa using Rep.nil⟩
  | empty a cap =>
    obtain rfl : m = 0 := by simpa using hm
    obtain rfl : l = 0 := by omega
    refine ⟨some a, 0, cap, rfl, rfl, Nat.zero_le _, ?_⟩
    split
    · exact .empty _ _
    · exact .empty _ _
  | list b o cap es xs vs hs h0 h2 hcap h3 h4 =>
    refine ⟨_, _, _, rfl, rfl, by omega, ?_⟩
    have hlen : ((xs.take m).drop l).length = m - l := by simp; omega
    have hadd : (⟨b, o, none⟩ : Addr).add (l * size) = ⟨b, o + l * size, none⟩ := by unfold Addr.add; split <;> simp_all
    rcases Nat.eq_or_lt_of_le hl with e | hlt
    · -- nothing is left
      subst e
      have hnil : (xs.take l).drop l = [] := by apply List.drop_eq_nil_of_le; simp; omega
      rw [hnil, Nat.sub_self]
      have key : ∀ o', Rep I w (.slice (some ⟨b, o', none⟩) 0 (cap - l)) (.list []) := fun o' =>
        .list b o' (cap - l) es [] (fun _ _ => undef) (by simp) (by simp) (fun i hi => by simp at hi) (by simp) (fun i j hi => absurd hi (by simp)) (fun i hi => absurd hi (by simp))
      split
      · exact key o
      · simp only [Option.map_some, hadd]
        exact key _
    · have hx : 0 < xs.length := by omega
      have hes : es = size := by rw [← h0 _ (List.getElem_mem hx)]; exact hw _ (List.getElem_mem hx)
      subst hes
      rw [if_neg (by omega)]
      simp only [Option.map_some, hadd]
      have hbnd : l * es + (m - l) * es ≤ xs.length * es := by rw [← Nat.add_mul]; exact Nat.mul_le_mul_right _ (by omega)
      rw [show m - l = ((xs.take m).drop l).length from hlen.symm]
      refine .list b (o + l * es) (cap - l) es _ (fun i j => vs (l + i) j) (fun x hx => hs x (List.mem_of_mem_take (List.mem_of_mem_drop hx))) (fun x hx => h0 x (List.mem_of_mem_take (List.mem_of_mem_drop hx))) (fun i hi => by rw [hlen] at hi; have := h2 (l * es + i) (by omega); omega) (by omega) (fun i j hi hj => ?_) fun i hi j hj => ?_
      · rw [← h3 (l + i) j (by omega) hj]; congr 2; rw [Nat.add_mul]; omega
      · have hi2 : l + i < xs.length := by omega
        have e : ((xs.take m).drop l)[i] = xs[l + i] := by simp
        have hj2 : j < (xs[l + i]).length := by rw [← e]; exact hj
        have := h4 (l + i) hi2 j hj2
        simpa using this

theorem did_slice {o : Oper} {t e : TypeId} {x : Operand} {lo hi : Option Operand} {size bytes : Nat} (h : Inv F g s a w) (hd : dstFits F.nt o.dst) (ho : o.op = .slice t x lo hi none) (he : elmP P t = some (e, size, bytes)) {xs : List (List PV)}
    (hx : (ev s.env x).bind SV.pv? = some (.list xs)) (hw : Wide size xs) (l m : Nat) (hl : l ≤ m) (hm : m ≤ xs.length)
    (hlo : (lo = none ∧ l = 0) ∨ ∃ y k, lo = some y ∧ a.eval y = .int k l) (hhi : (hi = none ∧ m = xs.length) ∨ ∃ y k, hi = some y ∧ a.eval y = .int k m) :
    Did P F ((s.eff .none).put o.dst (.pv (.list ((xs.take m).drop l)))) o a w := by
  obtain ⟨hu, inf, hin, his, _⟩ := elmP_ok he
  obtain ⟨hu', hel⟩ := elem_of hu
  obtain ⟨ad, n, cap, hval, hn, hcap, hrep⟩ := rep_cut (evp_ok h hx) hw l m hl hm
  refine did_pure h hd (v := .slice (if cap = l then ad else ad.map (·.add (l * size))) (m - l) (cap - l)) ?_ (.pv hrep)
  refine exec_v (sem := Instr.sliceAt t (a.eval x) (lo.map a.eval) (hi.map a.eval) none) (by simp [execOp, ho]) ?_
  rw [hval, run_sliceAt_slice (P := P) w t _ _ _ _ hu']
  rcases hlo with ⟨rfl, rfl⟩ | ⟨y, k, rfl, hy⟩ <;> rcases hhi with ⟨rfl, rfl⟩ | ⟨z, k', rfl, hz⟩
  · simp [run_slice_all (P := P) w t _ _ _ hu', hel, size_run hin, his, sliced, hn]
  · simp [hz, run_slice_h (P := P) w t _ n cap hu' k' m (by omega) (by omega), hel, size_run hin, his, sliced]
  · simp [hy, run_slice_l (P := P) w t _ xs.length cap hu' k l (by omega) (by omega), hel, size_run hin, his, sliced, hn]
  · simp [hy, hz, run_slice_lh (P := P) w t _ n cap hu' k k' l m (by omega) (by omega) (by omega), hel, size_run hin, his, sliced]

theorem did_lenList {o : Oper} {c : Call} {x : Operand} {t e : TypeId} (h : Inv F g s a w) (hd : dstFits F.nt o.dst) (ho : o.op = .call c) (hc : c.callee = .builtin .len) (ha : c.args = #[x]) (ht : c.argTypes[0]? = some t) (hu : P.underlying t = some (.slice e))
    {xs : List (List PV)} (hx : (ev s.env x).bind SV.pv? = some (.list xs)) : Did P F ((s.eff .none).put o.dst (.pv (.int .i64 xs.length))) o a w := by
  obtain ⟨ad, cap, hval, _⟩ := rep_list (evp_ok h hx)
  refine did_pure h hd (v := .int .i64 xs.length) ?_ (.pv (.int _ _))
  simp [execOp, ho, resolve, hc, ha, invoke, builtin, Builtin.len_, ht, hval, run_underlying hu, goInt]

theorem did_lenLrow {o : Oper} {c : Call} {x : Operand} {t e : TypeId} (h : Inv F g s a w) (hd : dstFits F.nt o.dst) (ho : o.op = .call c) (hc : c.callee = .builtin .len) (ha : c.args = #[x]) (ht : c.argTypes[0]? = some t) (hu : P.underlying t = some (.slice e))
    {q : Nat × Nat} (hx : lrowIn (ev s.env x) = some q) : Did P F ((s.eff .none).put o.dst (.pv (.int .i64 q.2))) o a w := by
  have hr := ev_ok h (lrowIn_eq hx)
  obtain ⟨d, n⟩ := q
  generalize hval : a.eval x = val at hr
  cases hr with
  | lrow d n b cap hb =>
    refine did_pure h hd (v := .int .i64 n) ?_ (.pv (.int _ _))
    simp [execOp, ho, resolve, hc, ha, invoke, builtin, Builtin.len_, ht, hval, run_underlying hu, goInt]

theorem did_lenStr {o : Oper} {c : Call} {x : Operand} {t : TypeId} (h : Inv F g s a w) (hd : dstFits F.nt o.dst) (ho : o.op = .call c) (hc : c.callee = .builtin .len) (ha : c.args = #[x]) (ht : c.argTypes[0]? = some t) (hu : P.underlying t = some .string)
    {l : List UInt8} (hx : (ev s.env x).bind SV.pv? = some (.str l)) : Did P F ((s.eff .none).put o.dst (.pv (.int .i64 l.length))) o a w := by
  obtain ⟨sb, hval, hl⟩ := rep_str (evp_ok h hx)
  have hsz : sb.size = l.length := by rw [← hl]; simp
  refine did_pure h hd (v := .int .i64 l.length) ?_ (.pv (.int _ _))
  simp [execOp, ho, resolve, hc, ha, invoke, builtin, Builtin.len_, ht, hval, run_underlying hu, goInt, hsz]

theorem did_max {o : Oper} {c : Call} {x y : Operand} (h : Inv F g s a w) (hd : dstFits F.nt o.dst) (ho : o.op = .call c) (hc : c.callee = .builtin .max) (ha : c.args = #[x, y]) {k k' : IntKind} {p q : Int}
    (hx : ev s.env x = some (.pv (.int k p))) (hy : ev s.env y = some (.pv (.int k' q))) : Did P F ((s.eff .none).put o.dst (.pv (.int k (if q > p then q else p)))) o a w := by
  refine did_pure h hd (v := .int k (if q > p then q else p)) ?_ (.pv (.int _ _))
  simp [execOp, ho, resolve, hc, ha, invoke, builtin, rep_int (srel_pv (ev_ok h hx)), rep_int (srel_pv (ev_ok h hy)), run_max_int2]
theorem did_min {o : Oper} {c : Call} {x y : Operand} (h : Inv F g s a w) (hd : dstFits F.nt o.dst) (ho : o.op = .call c) (hc : c.callee = .builtin .min) (ha : c.args = #[x, y]) {k k' : IntKind} {p q : Int}
    (hx : ev s.env x = some (.pv (.int k p))) (hy : ev s.env y = some (.pv (.int k' q))) : Did P F ((s.eff .none).put o.dst (.pv (.int k (if q < p then q else p)))) o a w := by
  refine did_pure h hd (v := .int k (if q < p then q else p)) ?_ (.pv (.int _ _))
  simp [execOp, ho, resolve, hc, ha, invoke, builtin, rep_int (srel_pv (ev_ok h hx)), rep_int (srel_pv (ev_ok h hy)), run_min_int2]

end
end Go.Proofs.YtbekdlgkoleblaaDoor
