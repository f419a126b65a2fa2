/- Each operation does what the pure one says (6): append. -/
import Derived.Test.YtbekdlgkoleblaaDoorEngH
namespace Go.Proofs.YtbekdlgkoleblaaDoor

section
variable {P : Program} {F : Fr} {g : Gh} {s : PS} {a : Act} {w : World}

/-- A row's cells, one behind the other. -/
theorem rep_flat {I : Nat → Nat} {v : Value} {xs : List (List PV)} (h : Rep I w v (.list xs)) {size : Nat} (hw : Wide size xs) :
    ∃ (ad : Option Addr) (cap : Nat) (vals : List Value), v = .slice ad xs.length cap ∧ xs.length ≤ cap ∧ vals.length = xs.length * size ∧ (∀ b, ad = some b → ∀ j u, vals[j]? = some u → w.cell? (b.add j) = some u) ∧ (ad = none → xs = [] ∧ cap = 0) ∧
      (∀ u ∈ vals, u.oneCell' = true) ∧ (∀ x ∈ xs, ∀ p ∈ x, p.scalar = true) ∧ ∀ i (h : i < xs.length) j (h' : j < (xs[i]).length), Rep I w (vals.getD (i * size + j) undef) (xs[i])[j] := by
  cases h with
  | nil => exact ⟨none, 0, [], rfl, Nat.le_refl _, by simp, fun _ h => by simp at h, fun _ => ⟨rfl, rfl⟩, by simp, by simp, fun i hi => absurd hi (by simp)⟩
  | empty a cap => exact ⟨some a, cap, [], rfl, Nat.zero_le _, by simp, fun _ _ j u hj => by simp at hj, fun h => by simp at h, by simp, by simp, fun i hi => absurd hi (by simp)⟩
  | list b o cap es xs vs hs h0 h2 hcap h3 h4 =>
    rcases Nat.eq_zero_or_pos xs.length with hx | hx
    · obtain rfl := List.eq_nil_of_length_eq_zero hx
      exact ⟨_, cap, [], rfl, by simp, by simp, fun _ _ j u hj => by simp at hj, fun h => by simp at h, by simp, by simp, fun i hi => absurd hi (by simp)⟩
    have hes : es = size := by rw [← h0 _ (List.getElem_mem hx)]; exact hw _ (List.getElem_mem hx)
    subst hes
    have hpos : ∀ j, j < xs.length * es → 0 < es ∧ j / es < xs.length ∧ j % es < es := fun j hj => by
      have he : 0 < es := by rcases Nat.eq_zero_or_pos es with e | e; · subst e; simp at hj
                             · exact e
      exact ⟨he, (Nat.div_lt_iff_lt_mul he).2 hj, Nat.mod_lt _ he⟩
    have hget : ∀ j, j < xs.length * es → ((List.range (xs.length * es)).map fun j => vs (j / es) (j % es))[j]? = some (vs (j / es) (j % es)) := fun j hj => by simp [hj]
    refine ⟨some ⟨b, o, none⟩, cap, (List.range (xs.length * es)).map fun j => vs (j / es) (j % es), rfl, hcap, by simp, fun b' hb j u hj => ?_, fun h => by simp at h, fun u hu => ?_, hs, fun i hi j hj => ?_⟩
    · injection hb with hb; subst hb
      have hlt : j < xs.length * es := by have := (List.getElem?_eq_some_iff.1 hj).1; simpa using this
      rw [hget j hlt] at hj; injection hj with hj; subst hj
      obtain ⟨he, h5, h6⟩ := hpos j hlt
      have hadd : (⟨b, o, none⟩ : Addr).add j = ⟨b, o + j, none⟩ := by unfold Addr.add; split <;> simp_all
      rw [hadd, ← h3 _ _ h5 h6]; congr 2
      rw [Nat.mul_comm]; have := Nat.div_add_mod j es; omega
    · obtain ⟨j, hj, rfl⟩ := List.mem_map.1 hu
      have hlt : j < xs.length * es := by simpa using hj
      obtain ⟨he, h5, h6⟩ := hpos j hlt
      have hl := h0 _ (List.getElem_mem h5)
      exact (h4 (j / es) h5 (j % es) (by omega)).scalar (hs _ (List.getElem_mem h5) _ (List.getElem_mem _))
    · have hl := h0 _ (List.getElem_mem hi)
      have hlt := row_lt hi (show j < es by omega)
      obtain ⟨he, _, _⟩ := hpos _ hlt
      have e1 : (i * es + j) / es = i := by rw [Nat.mul_comm, Nat.mul_add_div he, Nat.div_eq_of_lt (by omega)]; omega
      have e2 : (i * es + j) % es = j := by rw [Nat.mul_comm, Nat.mul_add_mod]; exact Nat.mod_eq_of_lt (by omega)
      have := hget _ hlt
      rw [List.getD_eq_getElem?_getD, this, Option.getD_some, e1, e2]
      exact h4 i hi j hj

theorem demoteAll_length (k : Nat) : ∀ vs : List SV, (SV.demoteAll k vs).length = vs.length
  | [] => rfl
  | v :: rest => by simp [SV.demoteAll, demoteAll_length k rest]
theorem demoteAll_get (k : Nat) : ∀ (vs : List SV) (i : Nat) (h : i < vs.length), (SV.demoteAll k vs)[i]'(by rw [demoteAll_length]; exact h) = SV.demote k vs[i]
  | v :: rest, 0, _ => by simp [SV.demoteAll]
  | v :: rest, i + 1, h => by
    have := demoteAll_get k rest i (by simpa using h)
    simpa [SV.demoteAll] using this

/-- A row grows, in a block of its own: what else there is stays; others that held it as their own read it as a row. -/
theorem Inv.appended (h : Inv F g s a w) (k : Nat) (ob : Option Nat) (im' : Nat → Nat) (w' : World) (t0 : Nat) (hos : w'.os = w.os) (htape : w'.tape = w.tape) (hout : w'.output = w.output) (hsz : w.heap.size ≤ w'.heap.size)
    (hblk : ∀ b, b < w.heap.size → b ≠ t0 → w'.heap[b]? = w.heap[b]?) (him : ∀ b, b < w.heap.size → b ≠ t0 → im' b = g.im b) (hz : ∀ b, w'.heap.size ≤ b → im' b = 0) (hk : Keeps g.im w im' w')
    (ht : w.heap.size ≤ t0 ∨ g.ow k = some (some t0)) (hob : ∀ b, ob = some b → b = t0 ∧ 0 < im' t0) :
    Inv F { g with im := im', ow := upd g.ow k (some ob) } (s.eff (.app k)) a w' := by
  have hne : ∀ {b : Nat}, b < w.heap.size → (0 < g.im b → ∀ j, g.ow j = some (some b) → j ≠ k) → (g.im b = 0 ∨ ∃ j, g.ow j = some (some b)) → b ≠ t0 := by
    intro b hb h1 h2 e
    subst e
    rcases ht with ht | ht
    · omega
    · have h3 := (h.ows k b ht).2
      rcases h2 with h2 | ⟨j, hj⟩
      · omega
      · exact h1 h3 j hj (h.owinj j k b hj ht)
  have hlt0 : ∀ {b : Nat} {o : Obj}, w.heap[b]? = some o → g.im b = 0 → w'.heap[b]? = some o ∧ im' b = 0 := fun {b o} hb h0 => by
    have hb' := heap_lt hb
    have := hne hb' (fun hp => by omega) (.inl h0)
    exact ⟨(hblk b hb' this).trans hb, (him b hb' this).trans h0⟩
  have howlt : ∀ {j b : Nat}, g.ow j = some (some b) → b < w.heap.size := fun {j b} hj => by
    have h2 := (h.ows j b hj).2
    rcases Nat.lt_or_ge b w.heap.size with hb | hb
    · exact hb
    · rw [h.imz b hb] at h2; omega
  have hown : ∀ {j b : Nat}, g.ow j = some (some b) → j ≠ k → b ≠ t0 := fun {j b} hj hjk => hne (howlt hj) (fun _ j' hj' => by rw [h.owinj j' j b hj' hj]; exact hjk) (.inr ⟨j, hj⟩)
  have ht0 : F.w0.heap.size ≤ t0 := by
    rcases ht with ht | ht
    · exact Nat.le_trans h.base ht
    · exact (h.ows k t0 ht).1
  refine
    { nt := h.nt, df := h.df, os := hos.trans h.os, tape := htape.trans h.tape, output := hout.trans h.output, base := Nat.le_trans h.base hsz, imz := hz,
      im0 := fun b hb => (him b (Nat.lt_of_lt_of_le hb h.base) (by omega)).trans (h.im0 b hb), blk := fun b hb hm => (hblk b (Nat.lt_of_lt_of_le hb h.base) (by omega)).trans (h.blk b hb hm),
      mts := fun k' b hk' => ?_, mtinj := h.mtinj, mtold := h.mtold, mtnew := h.mtnew, mtlt := h.mtlt, tab := h.tab,
      locs := fun d b hd => ?_, lcinj := h.lcinj, ows := fun k' b hk' => ?_, owinj := fun k1 k2 b h1 h2 => ?_, env := fun t v hv => ?_ }
  · obtain ⟨⟨t, ht'⟩, hi⟩ := h.mts k' b hk'
    exact ⟨⟨t, (hlt0 ht' hi).1⟩, (hlt0 ht' hi).2⟩
  · obtain ⟨h1, h2, h3, cells, c, t, e1, e2, e3, es, e4⟩ := h.locs d b hd
    exact ⟨h1, (hlt0 e2 h2).2, h3, cells, c, t, e1, (hlt0 e2 h2).1, e3, es, fun i hi hi' => (e4 i hi hi').keeps hk⟩
  · simp only [upd] at hk'
    split at hk'
    · injection hk' with e
      obtain ⟨rfl, hp⟩ := hob b e
      exact ⟨ht0, hp⟩
    · rename_i hkk
      obtain ⟨h1, h2⟩ := h.ows k' b hk'
      exact ⟨h1, by show 0 < im' b; rw [him b (howlt hk') (hown hk' hkk)]; exact h2⟩
  · simp only [upd] at h1 h2
    split at h1 <;> split at h2
    · rename_i e1 e2; rw [e1, e2]
    · rename_i e1 e2; injection h1 with e; obtain ⟨rfl, _⟩ := hob b e; exact absurd rfl (hown h2 e2)
    · rename_i e1 e2; injection h2 with e; obtain ⟨rfl, _⟩ := hob b e; exact absurd rfl (hown h1 e1)
    · exact h.owinj _ _ b h1 h2
  · obtain ⟨v0, hv0, rfl⟩ := Option.map_eq_some_iff.1 (show (s.env t).map (SV.demote k) = some v from hv)
    have key : ∀ {val v0}, SRel g w val v0 → SRel { g with im := im', ow := upd g.ow k (some ob) } w' val (SV.demote k v0) := by
      intro val v0 hr
      induction hr with
      | undef => exact .undef
      | pv hp => exact .pv (hp.keeps hk)
      | loc d off b hb => exact .loc d off b hb
      | mtr k' off b hb => exact .mtr k' off b hb
      | lrow d n b cap h => exact .lrow d n b cap h
      | full hp => exact .full (hp.keeps hk)
      | ownNone h1 hp =>
        simp only [SV.demote]
        split
        · exact .pv (hp.keeps hk)
        · rename_i hkk
          exact .ownNone (by show upd g.ow k _ _ = _; rw [upd_ne _ _ hkk]; exact h1) (hp.keeps hk)
      | own h1 hp hat =>
        simp only [SV.demote]
        split
        · exact .pv (hp.keeps hk)
        · rename_i hkk
          obtain ⟨cap, c, tt, es, e1, e2, e3, e4, r⟩ := hat
          have hb := hown h1 hkk
          exact .own (by show upd g.ow k _ _ = _; rw [upd_ne _ _ hkk]; exact h1) (hp.keeps hk) ⟨cap, c, tt, es, e1, (hblk _ (howlt h1) hb).trans e2, e3, (him _ (howlt h1) hb).trans e4, r⟩
      | tup us vs hs h4 ih =>
        simp only [SV.demote]
        refine .tup us _ (by rw [demoteAll_length]; exact hs) fun i hi hi' => ?_
        have hi2 : i < vs.length := by rw [demoteAll_length] at hi; exact hi
        rw [demoteAll_get k vs i hi2]
        exact ih i hi2 hi'
    exact key (h.env t v0 hv0)

theorem grown_zero (w : World) (n : Nat) (e : TypeId) (h : n ≤ maxLen) : n ≤ grownCap w n 0 e ∧ grownCap w n 0 e ≤ maxLen := ⟨grownCap_ge _ _ _ _, grownCap_le_maxLen _ _ _ _ h⟩

/-- Cells of two rows, one behind the other, and more behind them. -/
theorem rows_join {I : Nat → Nat} {size : Nat} {xs ys : List (List PV)} {us vs zs : List Value} (hu : us.length = xs.length * size) (hv : vs.length = ys.length * size) (hwx : Wide size xs) (hwy : Wide size ys)
    (hx : ∀ i (h : i < xs.length) j (h' : j < (xs[i]).length), Rep I w (us.getD (i * size + j) undef) (xs[i])[j]) (hy : ∀ i (h : i < ys.length) j (h' : j < (ys[i]).length), Rep I w (vs.getD (i * size + j) undef) (ys[i])[j]) :
    ∀ i (h : i < (xs ++ ys).length) j (h' : j < ((xs ++ ys)[i]).length), Rep I w ((us ++ vs ++ zs).getD (i * size + j) undef) ((xs ++ ys)[i])[j] := by
  intro i hi j hj
  rcases Nat.lt_or_ge i xs.length with h | h
  · have e : (xs ++ ys)[i] = xs[i] := List.getElem_append_left h
    have hj' : j < (xs[i]).length := by rw [← e]; exact hj
    have hjs : j < size := by rw [← hwx _ (List.getElem_mem h)]; exact hj'
    have hlt := row_lt h hjs
    have := hx i h j hj'
    have e2 : (us ++ vs ++ zs).getD (i * size + j) undef = us.getD (i * size + j) undef := by
      simp only [List.getD_eq_getElem?_getD, List.append_assoc]
      rw [List.getElem?_append_left (by omega)]
    rw [e2]
    simpa [e] using this
  · have hi2 : i - xs.length < ys.length := by simp at hi; omega
    have e : (xs ++ ys)[i] = ys[i - xs.length] := List.getElem_append_right h
    have hj' : j < (ys[i - xs.length]).length := by rw [← e]; exact hj
    have hjs : j < size := by rw [← hwy _ (List.getElem_mem hi2)]; exact hj'
    have hlt := row_lt hi2 hjs
    have hle : xs.length * size ≤ i * size := Nat.mul_le_mul_right _ h
    have := hy (i - xs.length) hi2 j hj'
    have hsub : (i - xs.length) * size = i * size - xs.length * size := Nat.sub_mul _ _ _
    have e2 : (us ++ vs ++ zs).getD (i * size + j) undef = vs.getD ((i - xs.length) * size + j) undef := by
      simp only [List.getD_eq_getElem?_getD, List.append_assoc]
      rw [List.getElem?_append_right (by omega), List.getElem?_append_left (by omega)]
      congr 2; omega
    rw [e2]
    simpa [e] using this

theorem wide_append {size : Nat} {xs ys : List (List PV)} (hx : Wide size xs) (hy : Wide size ys) : Wide size (xs ++ ys) := fun x h => (List.mem_append.1 h).elim (hx x) (hy x)

theorem keeps_set {I : Nat → Nat} {b n : Nat} {c c' : Array Value} {t : TypeId} (hb : w.heap[b]? = some (.cells c t (0, 0))) (hn : I b ≤ n) (hc : ∀ i, i < I b → c'[i]? = c[i]?) : Keeps I w (upd I b n) (w.setRow b c') := by
  refine ⟨fun k => ?_, fun k o ho => ?_⟩
  · unfold upd; split
    · rename_i e; subst e; exact hn
    · exact Nat.le_refl _
  · by_cases e : k = b
    · subst e
      rw [cell_of_heap (setRow_heap w k c c' t (0, 0) hb), cell_of_heap hb]
      exact hc o ho
    · exact World.cell?_of_block (w := w) (setRow_other w b k c' e)

/-- append: where there is room, and the row is the call's own; where there is none. -/
theorem append_room (h : Inv F g s a w) {t e : TypeId} {size bytes : Nat} (he : elmP P t = some (e, size, bytes)) {k b : Nat} {v u : Value} {xs ys : List (List PV)} (hk : g.ow k = some (some b)) (hv : Rep g.im w v (.list xs)) (hat : OwnAt g.im w b v xs)
    (hu : Rep g.im w u (.list ys)) (hwx : Wide size xs) (hwy : Wide size ys) (hs : 0 < size) (hy : 0 < ys.length) (ty : TypeId) {cap : Nat} (hcap : v = .slice (some ⟨b, 0, none⟩) xs.length cap) (hroom : xs.length + ys.length ≤ cap) :
    ∃ v' w' g', (Builtin.append_ #[t, t] ty #[v, u]).run P w = .ok v' w' ∧ Inv F g' (s.eff (.app k)) a w' ∧ SRel g' w' v' (.own k (xs ++ ys)) := by
  obtain ⟨hun, inf, hin, his, _⟩ := elmP_ok he
  subst his
  obtain ⟨cap', c, tt, es, e1, e2, e3, e4, e5, e6, e7, e8, e9⟩ := hat
  rw [hcap] at e1; injection e1 with _ _ e1; subst e1
  have hes : es = inf.size := by rw [← e9 _ (List.getElem_mem e7)]; exact hwx _ (List.getElem_mem e7)
  subst hes
  obtain ⟨ad, cap2, vals, hval, _, hvl, hcell, hnone, hone, hsc, hrep⟩ := rep_flat hu hwy
  obtain ⟨ad, rfl⟩ : ∃ b', ad = some b' := by
    cases ad with
    | none => have := (hnone rfl).1; subst this; simp at hy
    | some b' => exact ⟨b', rfl⟩
  have hf := run_firstCells_some (P := P) w inf.size ys.length ad ys.length cap2 vals hvl (hcell ad rfl)
  have hmul : (xs.length + ys.length) * inf.size ≤ cap * inf.size := Nat.mul_le_mul_right _ hroom
  rw [Nat.add_mul] at hmul
  have hst := run_storeCells_at P b (xs.length * inf.size) tt vals 0 c w e2 (by omega) hone
  simp only [Nat.add_zero] at hst
  generalize hc' : (c.toList.take (xs.length * inf.size) ++ vals ++ c.toList.drop (xs.length * inf.size + vals.length)).toArray = c' at hst
  have hc'sz : c'.size = c.size := by subst hc'; simp; omega
  have hpre : ∀ i, i < xs.length * inf.size → c'[i]? = c[i]? := fun i hi => by
    subst hc'
    simp only [List.getElem?_toArray, List.append_assoc]
    rw [List.getElem?_append_left (by simp; omega), List.getElem?_take_of_lt hi]
    simp
  have hkeep : Keeps g.im w (upd g.im b ((xs.length + ys.length) * inf.size)) (w.setRow b c') := keeps_set e2 (by rw [e4]; exact Nat.mul_le_mul_right _ (by omega)) (fun i hi => hpre i (by rw [e4] at hi; exact hi))
  have hblt := heap_lt e2
  have hinv := h.appended k (some b) (upd g.im b ((xs.length + ys.length) * inf.size)) (w.setRow b c') b rfl rfl rfl (by simp [World.setRow]) (fun b' _ hne => setRow_other w b b' c' hne) (fun b' _ hne => upd_ne _ _ hne)
    (fun b' hb' => by
      have hb2 : w.heap.size ≤ b' := by simpa [World.setRow] using hb'
      rw [upd_ne _ _ (by omega)]; exact h.imz b' hb2) hkeep (.inr hk) (fun b' hb' => ⟨by injection hb' with e; exact e.symm, by simp only [upd_same]; exact Nat.mul_pos (by omega) hs⟩)
  have hhere : (w.setRow b c').heap[b]? = some (.cells c' tt (0, 0)) := setRow_heap w b c c' tt (0, 0) e2
  obtain ⟨_, capx, valx, hvx, _, hxl, hxc, _, _, hsx, hrx⟩ := rep_flat hv hwx
  rw [hcap] at hvx; injection hvx with hvx _ hvx2; subst hvx
  have hvx3 : valx = c.toList.take (xs.length * inf.size) := by
    apply List.ext_getElem?
    intro i
    rcases Nat.lt_or_ge i (xs.length * inf.size) with hi | hi
    · have h1 := hxc ⟨b, 0, none⟩ rfl i valx[i] (by simp)
      have hadd : (⟨b, 0, none⟩ : Addr).add i = ⟨b, i, none⟩ := by unfold Addr.add; split <;> simp_all
      rw [hadd, cell_of_heap e2] at h1
      rw [List.getElem?_take_of_lt hi, List.getElem?_eq_getElem (by omega)]
      simpa using h1.symm
    · rw [List.getElem?_eq_none (by omega), List.getElem?_eq_none (by simp; omega)]
  have hjoin := rows_join (w := w.setRow b c') (I := upd g.im b ((xs.length + ys.length) * inf.size)) (zs := c.toList.drop (xs.length * inf.size + vals.length)) hxl hvl hwx hwy (fun i hi j hj => (hrx i hi j hj).keeps hkeep) (fun i hi j hj => (hrep i hi j hj).keeps hkeep)
  have hnew : Rep (upd g.im b ((xs.length + ys.length) * inf.size)) (w.setRow b c') (.slice (some ⟨b, 0, none⟩) (xs ++ ys).length cap) (.list (xs ++ ys)) := by
    refine rep_rows hhere (by simp) (by simpa using hroom) (by rw [List.length_append, Nat.add_mul]; omega) (wide_append hwx hwy) (fun x hx => (List.mem_append.1 hx).elim (hsx x) (hsc x)) fun i hi j hj => ?_
    have := hjoin i hi j hj
    rw [hvx3] at this
    have hce : c'.getD (i * inf.size + j) undef = (c.toList.take (xs.length * inf.size) ++ vals ++ c.toList.drop (xs.length * inf.size + vals.length)).getD (i * inf.size + j) undef := by rw [← hc']; simp
    rw [hce]; exact this
  refine ⟨.slice (some ⟨b, 0, none⟩) (xs.length + ys.length) cap, _, _, ?_, hinv, ?_⟩
  · subst hcap hval
    simp [Builtin.append_, run_underlying hun, sizeOf, typeInfo, hin, Builtin.lenOf, hroom, hf, Addr.add_lit, hst]
  · have hnew' := hnew
    rw [List.length_append] at hnew'
    exact .own (by simp) hnew' ⟨cap, c', tt, inf.size, by rw [List.length_append], hhere, by rw [hc'sz]; exact e3, by simp, by simpa using hroom, e6, by simp; omega, hs, wide_append hwx hwy⟩

end
end Go.Proofs.YtbekdlgkoleblaaDoor
