/- Each operation does what the pure one says (7): append, where there is no room; of nothing. -/
import Derived.Test.YtbekdlgkoleblaaDoorEngI
namespace Go.Proofs.YtbekdlgkoleblaaDoor

section
variable {P : Program} {F : Fr} {g : Gh} {s : PS} {a : Act} {w : World}

theorem Inv.alloc_append (h : Inv F g s a w) (k n : Nat) (hn : 0 < n) (c : Array Value) (t : TypeId) :
    Inv F { g with im := upd g.im w.heap.size n, ow := upd g.ow k (some (some w.heap.size)) } (s.eff (.app k)) a (w.drew.alloc (.cells c t)) ∧ Keeps g.im w (upd g.im w.heap.size n) (w.drew.alloc (.cells c t)) := by
  have hk : Keeps g.im w (upd g.im w.heap.size n) (w.drew.alloc (.cells c t)) := by
    have := keeps_alloc (I := g.im) (w := w.drew) h.imz (.cells c t) n
    exact ⟨this.le, this.cell⟩
  refine ⟨h.appended k (some w.heap.size) _ _ w.heap.size rfl rfl rfl (by simp) (fun b hb hne => World.heap_alloc_lt w.drew _ b hb) (fun b _ hne => upd_ne _ _ hne) (fun b hb => ?_) hk (.inl (Nat.le_refl _))
    (fun b hb => ⟨by injection hb with e; exact e.symm, by simpa using hn⟩), hk⟩
  have hb' : w.heap.size + 1 ≤ b := by simpa using hb
  rw [upd_ne _ _ (by omega)]
  exact h.imz b (by omega)

theorem Inv.alloc_own (h : Inv F g s a w) (k n : Nat) (hn : 0 < n) (c : Array Value) (t : TypeId) :
    Inv F { g with im := upd g.im w.heap.size n, ow := upd g.ow k (some (some w.heap.size)) } (s.eff (.app k)) a (w.alloc (.cells c t)) ∧ Keeps g.im w (upd g.im w.heap.size n) (w.alloc (.cells c t)) := by
  have hk : Keeps g.im w (upd g.im w.heap.size n) (w.alloc (.cells c t)) := keeps_alloc (I := g.im) (w := w) h.imz (.cells c t) n
  refine ⟨h.appended k (some w.heap.size) _ _ w.heap.size rfl rfl rfl (by simp) (fun b hb hne => World.heap_alloc_lt w _ b hb) (fun b _ hne => upd_ne _ _ hne) (fun b hb => ?_) hk (.inl (Nat.le_refl _))
    (fun b hb => ⟨by injection hb with e; exact e.symm, by simpa using hn⟩), hk⟩
  have hb' : w.heap.size + 1 ≤ b := by simpa using hb
  rw [upd_ne _ _ (by omega)]
  exact h.imz b (by omega)

theorem did_buildSlice {o : Oper} {t e : TypeId} {n size bytes : Nat} {parts : Array (Nat × Operand)} (h : Inv F g s a w) (hd : dstFits F.nt o.dst) (ho : o.op = .buildSlice t n parts) (he : elmP P t = some (e, size, bytes)) {z : List PV} {rows : List (List PV)}
    (hz : zeroP P e = some z) (hf : prows size (List.replicate n z) (parts.toList.map fun q => (q.1, (ev s.env q.2).bind SV.pv?)) = some rows) (h1 : z.length = size) (h2 : 0 < size) (h3 : n * size ≤ 16777216) {c0 c : Prop} {v : SV} {eff : Eff} (hb : buildRow c0 o.dst rows = some (c, v, eff)) :
    Did P F ((s.eff eff).put o.dst v) o a w := by
  obtain ⟨c', hrun, f3, f2⟩ := buildSlice_run h ho he hz hf h1 h2 h3
  cases rows with
  | nil =>
    simp only [buildRow, Option.some.injEq, Prod.mk.injEq] at hb
    obtain ⟨_, rfl, rfl⟩ := hb
    exact ⟨_, _, .inl ⟨_, hrun, (h.newIm (.cells c' e) 0).put hd (.full (.empty _ _))⟩⟩
  | cons r rs =>
    cases hdst : o.dst with
    | none => rw [hdst] at hb; cases hb
    | some d =>
      rw [hdst] at hb
      simp only [buildRow, Option.some.injEq, Prod.mk.injEq] at hb
      obtain ⟨_, rfl, rfl⟩ := hb
      have hpos : 0 < (r :: rs).length * size := Nat.mul_pos (by simp) h2
      obtain ⟨hinv, hkeep⟩ := h.alloc_own d ((r :: rs).length * size) hpos c' e
      have hrep : Rep (upd g.im w.heap.size ((r :: rs).length * size)) (w.alloc (.cells c' e)) (.slice (some ⟨w.heap.size, 0, none⟩) (r :: rs).length (r :: rs).length) (.list (r :: rs)) := by
        refine rep_rows (heap_new w _) (by simp [upd]) (Nat.le_refl _) (by rw [f2.1]; exact Nat.le_refl _) f2.2.1 f2.2.2.1 fun i hi j hj => ?_
        exact (f2.2.2.2 i hi j hj).keeps hkeep
      have hmax : (r :: rs).length ≤ maxLen := by
        have : (r :: rs).length * 1 ≤ n * size := by rw [f3]; exact Nat.mul_le_mul_left _ h2
        simp only [maxLen]; omega
      have hsr : SRel { g with im := upd g.im w.heap.size ((r :: rs).length * size), ow := upd g.ow d (some (some w.heap.size)) } (w.alloc (.cells c' e)) (.slice (some ⟨w.heap.size, 0, none⟩) (r :: rs).length (r :: rs).length) (.own d (r :: rs)) :=
        .own (k := d) (b := w.heap.size) (by simp) hrep ⟨(r :: rs).length, c', e, size, rfl, heap_new w _, f2.1, by simp [upd], Nat.le_refl _, hmax, by simp, h2, f2.2.1⟩
      have hfin := hinv.put hd hsr
      refine ⟨{ g with im := upd g.im w.heap.size ((r :: rs).length * size), ow := upd g.ow d (some (some w.heap.size)) }, _, .inl ⟨_, hrun, ?_⟩⟩
      rw [← hdst]
      exact hfin

theorem append_grow (h : Inv F g s a w) {t e : TypeId} {size bytes : Nat} (he : elmP P t = some (e, size, bytes)) (hzp : (zeroP P e).map List.length = some size) (k : Nat) {v u : Value} {xs ys : List (List PV)} (hv : Rep g.im w v (.list xs))
    (hu : Rep g.im w u (.list ys)) (hwx : Wide size xs) (hwy : Wide size ys) (hs : 0 < size) (hy : 0 < ys.length) (ty : TypeId) {ad0 : Option Addr} {cap : Nat} (hcap : v = .slice ad0 xs.length cap) (hroom : cap < xs.length + ys.length)
    (hby : (xs.length + ys.length) * bytes ≤ 140737488355328) (hmx : xs.length + ys.length ≤ maxLen) :
    ∃ v' w' g', (Builtin.append_ #[t, t] ty #[v, u]).run P w = .ok v' w' ∧ Inv F g' (s.eff (.app k)) a w' ∧ SRel g' w' v' (.own k (xs ++ ys)) := by
  obtain ⟨hun, inf, hin, his, hib⟩ := elmP_ok he
  subst his hib
  obtain ⟨zs, hz, hzl⟩ := Option.map_eq_some_iff.1 hzp
  obtain ⟨z, hzr, hzs, _, _⟩ := zeroP_ok (I := g.im) (w := w) hz
  have hiz : inf.zero = some z := by
    have := hzr w
    simp only [zeroValue, typeInfo, Sem.run_bind, run_program, Result.andThen_ok, hin, Sem.run_pure] at this
    cases hq : inf.zero with
    | none => rw [hq] at this; simp at this
    | some z' => rw [hq] at this; simp at this; rw [this]
  obtain ⟨ad, cap2, vals, hval, _, hvl, hcell, hnone, _, hsc, hrep⟩ := rep_flat hu hwy
  obtain ⟨ad, rfl⟩ : ∃ b', ad = some b' := by
    cases ad with
    | none => have := (hnone rfl).1; subst this; simp at hy
    | some b' => exact ⟨b', rfl⟩
  obtain ⟨ad1, cap1, olds, hval1, hcap1, hol, hocell, honone, _, hosc, horep⟩ := rep_flat hv hwx
  have hge := grownCap_ge w (xs.length + ys.length) cap e
  have hcm := grownCap_le_maxLen w (xs.length + ys.length) cap e hmx
  have h63 : xs.length + ys.length ≤ 9223372036854775807 := by simp only [maxLen] at hmx; omega
  generalize hC : olds.toArray ++ vals.toArray ++ Builtin.zeroCells z.cells (grownCap w (xs.length + ys.length) cap e - (xs.length + ys.length)) = C
  have hrun : (Builtin.append_ #[t, t] ty #[v, u]).run P w = .ok (.slice (some ⟨w.heap.size, 0, none⟩) (xs.length + ys.length) (grownCap w (xs.length + ys.length) cap e)) (w.drew.alloc (.cells C e)) := by
    subst hval
    rw [hval1] at hcap; injection hcap with e1 _ e2; subst e1; subst e2
    subst hval1
    cases ad1 with
    | none =>
      obtain ⟨hx0, hc0⟩ := honone rfl
      subst hx0; subst hc0
      have ho0 : olds = [] := List.eq_nil_of_length_eq_zero (by simpa using hol)
      subst ho0
      have := run_append_nil (P := P) w t ty e inf z hun hin hiz ad ys.length cap2 vals hvl (hcell ad rfl) hy (by simp at h63; omega) (by simp at hby; omega)
      rw [← hC]; simpa using this
    | some b =>
      have := run_append_grow (P := P) w t ty e inf z hun hin hiz b xs.length cap1 olds hol (hocell b rfl) ad ys.length cap2 vals hvl (hcell ad rfl) hroom (by omega) (growslice_fits hroom hby)
      rw [hC] at this
      exact this
  have hpos : 0 < (xs.length + ys.length) * inf.size := Nat.mul_pos (by omega) hs
  obtain ⟨hinv, hkeep⟩ := h.alloc_append k ((xs.length + ys.length) * inf.size) hpos C e
  have hCs : C.size = grownCap w (xs.length + ys.length) cap e * inf.size := by
    subst hC
    simp only [Array.size_append, List.size_toArray, size_zeroCells, hzs, hol, hvl, hzl, ← Nat.add_mul]
    congr 1; omega
  have hheap : (w.drew.alloc (.cells C e)).heap[w.heap.size]? = some (.cells C e (0, 0)) := heap_new w.drew _
  have hjoin := rows_join (w := w.drew.alloc (.cells C e)) (I := upd g.im w.heap.size ((xs.length + ys.length) * inf.size)) (zs := (Builtin.zeroCells z.cells (grownCap w (xs.length + ys.length) cap e - (xs.length + ys.length))).toList) hol hvl hwx hwy
    (fun i hi j hj => (horep i hi j hj).keeps hkeep) (fun i hi j hj => (hrep i hi j hj).keeps hkeep)
  have hnew : Rep (upd g.im w.heap.size ((xs.length + ys.length) * inf.size)) (w.drew.alloc (.cells C e)) (.slice (some ⟨w.heap.size, 0, none⟩) (xs ++ ys).length (grownCap w (xs.length + ys.length) cap e)) (.list (xs ++ ys)) := by
    refine rep_rows hheap (by simp) (by simpa using hge) (by rw [hCs, List.length_append]; exact Nat.mul_le_mul_right _ hge) (wide_append hwx hwy) (fun x hx => (List.mem_append.1 hx).elim (hosc x) (hsc x)) fun i hi j hj => ?_
    have := hjoin i hi j hj
    have hce : C.getD (i * inf.size + j) undef = (olds ++ vals ++ (Builtin.zeroCells z.cells (grownCap w (xs.length + ys.length) cap e - (xs.length + ys.length))).toList).getD (i * inf.size + j) undef := by
      rw [← hC, Array.getD_eq_getD_getElem?, List.getD_eq_getElem?_getD]
      congr 1
      rw [← Array.getElem?_toList]
      simp
    rw [hce]; exact this
  refine ⟨_, _, _, hrun, hinv, ?_⟩
  have hnew' := hnew
  rw [List.length_append] at hnew'
  exact .own (by simp) hnew' ⟨_, C, e, inf.size, by rw [List.length_append], hheap, hCs, by simp, by simpa using hge, hcm, by simp; omega, hs, wide_append hwx hwy⟩

/-- Of nothing: the row itself. -/
theorem append_none {t e : TypeId} {size bytes : Nat} (he : elmP P t = some (e, size, bytes)) {v u : Value} {xs : List (List PV)} {I : Nat → Nat} (hv : Rep I w v (.list xs)) (hu : Rep I w u (.list [])) (ty : TypeId) :
    (Builtin.append_ #[t, t] ty #[v, u]).run P w = .ok v w := by
  obtain ⟨hun, inf, hin, his, hib⟩ := elmP_ok he
  obtain ⟨ad, cap, hval, hle⟩ := rep_list hv
  obtain ⟨ad2, cap2, hval2, _⟩ := rep_list hu
  subst hval hval2
  cases ad <;> cases ad2 <;> simp [Builtin.append_, run_underlying hun, sizeOf, typeInfo, hin, Builtin.lenOf, hle, Builtin.firstCells, loadCells, loadCellsFrom, storeCells]

theorem maxLen_ok {n : Nat} (h : n ≤ 140737488355328) : n ≤ maxLen := by simp only [maxLen]; omega

theorem did_appendOwn {o : Oper} {c : Call} {x y : Operand} {t e : TypeId} {size bytes : Nat} (h : Inv F g s a w) (hd : dstFits F.nt o.dst) (ho : o.op = .call c) (hc : c.callee = .builtin .append) (ha : c.args = #[x, y]) (hts : c.argTypes = #[t, t])
    (he : elmP P t = some (e, size, bytes)) (hzp : (zeroP P e).map List.length = some size) {k : Nat} {xs ys : List (List PV)} (hx : ev s.env x = some (.own k xs)) (hy : (ev s.env y).bind SV.pv? = some (.list ys))
    (hwx : Wide size xs) (hwy : Wide size ys) (hs : 0 < size) (hby : (xs.length + ys.length) * bytes ≤ 140737488355328) (hmx : xs.length + ys.length ≤ 140737488355328) :
    Did P F ((s.eff (.app k)).put o.dst (.own k (xs ++ ys))) o a w := by
  have hv := ev_ok h hx
  have hu := evp_ok h hy
  have hrep : Rep g.im w (a.eval x) (.list xs) := hv.pv? rfl
  have fin : ∀ {v' w' g'}, (Builtin.append_ #[t, t] o.type #[a.eval x, a.eval y]).run P w = .ok v' w' → Inv F g' (s.eff (.app k)) a w' → SRel g' w' v' (.own k (xs ++ ys)) → Did P F ((s.eff (.app k)).put o.dst (.own k (xs ++ ys))) o a w := by
    intro v' w' g' hr hi hsr
    refine ⟨g', w', .inl ⟨v', ?_, hi.put hd hsr⟩⟩
    refine exec_v (sem := Builtin.append_ #[t, t] o.type #[a.eval x, a.eval y]) ?_ hr
    simp [execOp, ho, resolve, hc, ha, hts, invoke, builtin]
  rcases Nat.eq_zero_or_pos ys.length with hy0 | hy0
  · obtain rfl := List.eq_nil_of_length_eq_zero hy0
    rw [List.append_nil] at fin ⊢
    have hrun := append_none he hrep hu o.type
    generalize hval : a.eval x = val at hv fin hrun
    cases hv with
    | ownNone h1 h2 =>
      refine fin hrun (h.appended k none g.im w w.heap.size rfl rfl rfl (Nat.le_refl _) (fun _ _ _ => rfl) (fun _ _ _ => rfl) h.imz (Keeps.refl _ _) (.inl (Nat.le_refl _)) (fun b hb => by cases hb)) ?_
      exact .ownNone (by simp) h2
    | own h1 h2 h3 =>
      rename_i b
      refine fin hrun (h.appended k (some b) g.im w b rfl rfl rfl (Nat.le_refl _) (fun _ _ _ => rfl) (fun _ _ _ => rfl) h.imz (Keeps.refl _ _) (.inr h1) (fun b' hb => ⟨by injection hb with e; exact e.symm, (h.ows k b h1).2⟩)) ?_
      exact .own (by simp) h2 h3
  · obtain ⟨ad, cap, hval, hle⟩ := rep_list hrep
    by_cases hroom : xs.length + ys.length ≤ cap
    · have hv0 := hv
      rw [hval] at hv0
      generalize hq : Value.slice ad xs.length cap = q at hv0
      cases hv0 with
      | ownNone h1 h2 => injection hq with _ e1 e2; omega
      | own h1 h2 h3 =>
        rename_i b
        obtain ⟨cap', c', t', es', e1, r⟩ := h3
        rw [e1] at hq; injection hq with e3 _ e4; subst e3; subst e4
        obtain ⟨v', w', g', hr, hi, hsr⟩ := append_room h he h1 hrep (by rw [hval]; exact ⟨cap, c', t', es', rfl, r⟩) hu hwx hwy hs hy0 o.type hval hroom
        exact fin hr hi hsr
    · obtain ⟨v', w', g', hr, hi, hsr⟩ := append_grow h he hzp k hrep hu hwx hwy hs hy0 o.type hval (by omega) hby (maxLen_ok hmx)
      exact fin hr hi hsr

theorem did_appendFull {o : Oper} {c : Call} {x y : Operand} {t e : TypeId} {size bytes : Nat} (h : Inv F g s a w) (hd : dstFits F.nt o.dst) (ho : o.op = .call c) (hc : c.callee = .builtin .append) (ha : c.args = #[x, y]) (hts : c.argTypes = #[t, t])
    (he : elmP P t = some (e, size, bytes)) (hzp : (zeroP P e).map List.length = some size) (k : Nat) {xs ys : List (List PV)} (hx : ev s.env x = some (.full xs)) (hy : (ev s.env y).bind SV.pv? = some (.list ys))
    (hwx : Wide size xs) (hwy : Wide size ys) (hs : 0 < size) (hby : (xs.length + ys.length) * bytes ≤ 140737488355328) (hmx : xs.length + ys.length ≤ 140737488355328) :
    Did P F ((s.eff (.app k)).put o.dst (.own k (xs ++ ys))) o a w := by
  have hv := ev_ok h hx
  have hu := evp_ok h hy
  have hrep : Rep g.im w (a.eval x) (.list xs) := hv.pv? rfl
  have fin : ∀ {v' w' g'}, (Builtin.append_ #[t, t] o.type #[a.eval x, a.eval y]).run P w = .ok v' w' → Inv F g' (s.eff (.app k)) a w' → SRel g' w' v' (.own k (xs ++ ys)) → Did P F ((s.eff (.app k)).put o.dst (.own k (xs ++ ys))) o a w := by
    intro v' w' g' hr hi hsr
    refine ⟨g', w', .inl ⟨v', ?_, hi.put hd hsr⟩⟩
    refine exec_v (sem := Builtin.append_ #[t, t] o.type #[a.eval x, a.eval y]) ?_ hr
    simp [execOp, ho, resolve, hc, ha, hts, invoke, builtin]
  have hsh : ∃ ad n, a.eval x = .slice ad n n ∧ n = xs.length := by
    obtain ⟨ad, cap, hval, hle⟩ := rep_list hrep
    generalize a.eval x = val at hv hval
    cases hv
    injection hval with _ e1 e2
    exact ⟨_, _, rfl, e1⟩
  obtain ⟨ad, n, hval, rfl⟩ := hsh
  have hx0 : xs = [] := by
    generalize a.eval x = val at hv
    cases hv; rfl
  subst hx0
  rcases Nat.eq_zero_or_pos ys.length with hy0 | hy0
  · obtain rfl := List.eq_nil_of_length_eq_zero hy0
    rw [List.append_nil] at fin ⊢
    have hrun := append_none he hrep hu o.type
    refine fin hrun (h.appended k none g.im w w.heap.size rfl rfl rfl (Nat.le_refl _) (fun _ _ _ => rfl) (fun _ _ _ => rfl) h.imz (Keeps.refl _ _) (.inl (Nat.le_refl _)) (fun b hb => by cases hb)) ?_
    rw [hval] at hrep ⊢
    exact .ownNone (by simp) hrep
  · obtain ⟨v', w', g', hr, hi, hsr⟩ := append_grow h he hzp k hrep hu hwx hwy hs hy0 o.type hval (by omega) hby (maxLen_ok hmx)
    exact fin hr hi hsr

end
end Go.Proofs.YtbekdlgkoleblaaDoor
