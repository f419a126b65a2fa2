/- Each operation does what the pure one says: those that leave the world alone, and those that make or write memory. -/
import Derived.Test.YtbekdlgkoleblaaDoorEngC
namespace Go.Proofs.YtbekdlgkoleblaaDoor

section
variable {P : Program} {F : Fr} {g : Gh} {s : PS} {a : Act} {w : World}

theorem constSV_ok {v : Value} {x : SV} (h : constSV v = some x) : SRel g w v x := by
  unfold constSV at h
  split at h <;> first | (injection h with h; subst h) | cases h
  · exact .pv (.bool _)
  · exact .pv (.int _ _)
  · exact .pv (.str _ _ rfl)
  · exact .pv .nilp
  · exact .full .nil

theorem ev_ok (h : Inv F g s a w) {x : Operand} {v : SV} (he : ev s.env x = some v) : SRel g w (a.eval x) v := by
  cases x with
  | tmp t => exact h.env t v he
  | const c => exact constSV_ok he
  | global _ => cases he
  | func _ => cases he

theorem SRel.pv? {v : Value} {x : SV} {p : PV} (h : SRel g w v x) (hp : x.pv? = some p) : Rep g.im w v p := by
  cases h <;> simp only [SV.pv?, Option.some.injEq, reduceCtorEq] at hp <;> subst hp <;> assumption

theorem evp_ok (h : Inv F g s a w) {x : Operand} {p : PV} (he : (ev s.env x).bind SV.pv? = some p) : Rep g.im w (a.eval x) p := by
  cases hx : ev s.env x with
  | none => rw [hx] at he; cases he
  | some v => rw [hx] at he; exact (ev_ok h hx).pv? he

theorem zeroPV_ok {I : Nat → Nat} {v : Value} {p : PV} (h : zeroPV v = some p) : Rep I w v p := by
  unfold zeroPV at h
  split at h <;> first | (injection h with h; subst h) | cases h
  · exact .bool _
  · exact .int _ _
  · exact .str _ _ rfl
  · exact .nilp
  · exact .nil

theorem zeroPV_scalar {v : Value} {p : PV} (h : zeroPV v = some p) : p.scalar = true := by
  unfold zeroPV at h
  split at h <;> first | (injection h with h; subst h; rfl) | cases h

theorem zeroAll_ok {I : Nat → Nat} : ∀ {l : List Value} {ps : List PV}, zeroAll l = some ps → l.length = ps.length ∧ (∀ p ∈ ps, p.scalar = true) ∧ ∀ i (h : i < ps.length) (h' : i < l.length), Rep I w l[i] ps[i]
  | [], ps, h => by simp only [zeroAll, Option.some.injEq] at h; subst h; exact ⟨rfl, fun _ h => absurd h (by simp), fun i h => absurd h (by simp)⟩
  | v :: rest, ps, h => by
    unfold zeroAll at h
    split at h
    · rename_i p l h1 h2
      injection h with h; subst h
      obtain ⟨e, f, r⟩ := zeroAll_ok h2
      refine ⟨by simp [e], fun q hq => ?_, fun i hi hi' => ?_⟩
      · rcases List.mem_cons.1 hq with rfl | hq
        · exact zeroPV_scalar h1
        · exact f q hq
      cases i with
      | zero => exact zeroPV_ok h1
      | succ i => exact r i (by simpa using hi) (by simpa using hi')
    · cases h

theorem zeroP_ok {I : Nat → Nat} {t : TypeId} {zs : List PV} (h : zeroP P t = some zs) : ∃ z, (∀ w, (zeroValue t).run P w = .ok z w) ∧ z.cells.size = zs.length ∧ (∀ p ∈ zs, p.scalar = true) ∧
    ∀ i (h : i < zs.length) (h' : i < z.cells.size), Rep I w z.cells[i] zs[i] := by
  unfold zeroP at h
  cases hi : P.info? t with
  | none => rw [hi] at h; cases h
  | some inf =>
    rw [hi] at h
    cases hz : inf.zero with
    | none => simp [hz] at h
    | some z =>
      simp only [Option.bind_some, hz] at h
      obtain ⟨e, f, r⟩ := zeroAll_ok (I := I) (w := w) h
      refine ⟨z, fun w => by simp [zeroValue, typeInfo, hi, hz], by simpa using e, f, fun i hi hi' => ?_⟩
      have := r i hi (by simpa using hi')
      simpa using this

theorem tyP_ok {t : TypeId} {n : Nat} {ag : Bool} (h : tyP P t = some (n, ag)) : (∀ w, (isAgg t).run P w = .ok ag w) ∧ ∀ w, (sizeOf t).run P w = .ok n w := by
  unfold tyP at h
  split at h
  · rename_i d i hd hi
    injection h with h; injection h with h1 h2; subst h1; subst h2
    refine ⟨fun w => ?_, fun w => by simp [sizeOf, typeInfo, hi]⟩
    cases d <;> simp [isAgg, run_underlying hd, aggD]
  · cases h

theorem elmP_ok {t e : TypeId} {n b : Nat} (h : elmP P t = some (e, n, b)) : P.underlying t = some (.slice e) ∧ ∃ i, P.info? e = some i ∧ i.size = n ∧ i.bytes = b := by
  unfold elmP at h
  split at h
  · rename_i e' he
    cases hi : P.info? e' with
    | none => rw [hi] at h; cases h
    | some i =>
      rw [hi] at h
      simp only [Option.map_some, Option.some.injEq, Prod.mk.injEq] at h
      obtain ⟨rfl, rfl, rfl⟩ := h
      exact ⟨he, i, hi, rfl, rfl⟩
  · cases h

theorem Rep.cellsIn {I : Nat → Nat} {b o off : Nat} {cells : List PV} (h : Rep I w (.pointer (some ⟨b, o, none⟩)) (.ref cells off)) (i : Nat) (hi : off + i < cells.length) :
    ∃ v, w.cell? ⟨b, o + i, none⟩ = some v ∧ Rep I w v cells[off + i] := by
  cases h with
  | ref b o off cells vs hs h1 h2 h3 h4 =>
    refine ⟨vs (off + i), ?_, h4 _ hi⟩
    rw [← h3 _ hi]; congr 2; omega

/-- A part of memory that reads as 'cells' from 'off' on, loaded. -/
theorem load_part {I : Nat → Nat} {t : TypeId} {size off : Nat} {ag : Bool} {cells : List PV} {p : PV} {ad : Addr} (ht : tyP P t = some (size, ag)) (hp : partOf ag off size cells = some p) (hs : ad.spot = none) (hfl : ∀ c ∈ cells, c.scalar = true)
    (hc : ∀ i (h : off + i < cells.length), ∃ v, w.cell? ⟨ad.block, ad.off + i, none⟩ = some v ∧ Rep I w v cells[off + i]) :
    ∃ v, (loadVar t ad).run P w = .ok v w ∧ Rep I w v p := by
  obtain ⟨b, o, sp⟩ := ad
  cases hs
  have hadd : ∀ j, (⟨b, o, none⟩ : Addr).add j = ⟨b, o + j, none⟩ := fun j => by unfold Addr.add; split <;> simp_all
  obtain ⟨ha, hz⟩ := tyP_ok ht
  unfold partOf at hp
  cases ag with
  | true =>
    simp only [if_true] at hp
    split at hp
    · rename_i hle
      injection hp with hp; subst hp
      have hc' : ∀ i, ∃ v, i < size → (w.cell? ⟨b, o + i, none⟩ = some v ∧ ∀ h : off + i < cells.length, Rep I w v cells[off + i]) := fun i => by
        by_cases hi : i < size
        · obtain ⟨v, h1, h2⟩ := hc i (by omega); exact ⟨v, fun _ => ⟨h1, fun _ => h2⟩⟩
        · exact ⟨undef, fun h => absurd h hi⟩
      obtain ⟨f, hf⟩ := Classical.axiomOfChoice hc'
      refine ⟨.agg ((List.range size).map f).toArray, ?_, ?_⟩
      · simp only [loadVar, Sem.run_bind, ha, Result.andThen_ok, hz, if_true, run_loadCells w ⟨b, o, none⟩ size f (fun j hj => by rw [hadd]; exact (hf j hj).1), Sem.run_pure]
      · refine .agg _ _ (fun c hc => hfl c (List.mem_of_mem_drop (List.mem_of_mem_take hc))) (by simp; omega) fun i h h' => ?_
        have hi : i < size := by simpa using h'
        have := (hf i hi).2 (by omega)
        simpa using this
    · cases hp
  | false =>
    simp only [Bool.false_eq_true, if_false] at hp
    obtain ⟨hlt, rfl⟩ := List.getElem?_eq_some_iff.1 hp
    obtain ⟨v, h1, h2⟩ := hc 0 hlt
    refine ⟨v, ?_, h2⟩
    simp only [Nat.add_zero] at h1
    simp only [loadVar, Sem.run_bind, ha, Result.andThen_ok, Bool.false_eq_true, if_false, run_load, h1]

theorem oper_value {o : Oper} {v : Value} {w' : World} {next : Act → World → Prop} {Q : Exit → Act → World → Prop} (hr : (execOp a.eval o).run P w = .ok (.value v) w') (h : next (a.put o.dst v) w') : o.wp P a w next Q := by
  unfold Oper.wp; rw [hr]; exact h

end
end Go.Proofs.YtbekdlgkoleblaaDoor
