/- What the arguments read as; the law's row out of its contract. -/
import Derived.Test.YtbekdlgkoleblaaDoorEngQ
import Derived.ProofKit
namespace Go.Proofs.YtbekdlgkoleblaaDoor

/-- Types of plain data: numbers, bools, texts, rows and structs of such. -/
def plainTy (P : Program) : Nat → TypeId → Bool
  | 0, _ => false
  | n + 1, t => match P.underlying t with
    | some .bool | some (.int _) | some .string => true
    | some (.slice e) => plainTy P n e && decide (0 < P.cellsOf e)
    | some (.struct fs) => fs.toList.all (fun f => plainTy P n f.type) && decide ((fs.toList.map fun f => P.cellsOf f.type).sum = P.cellsOf t) && structAt P 0 fs.toList
    | _ => false
  where
  structAt (P : Program) : Nat → List Field → Bool
    | _, [] => true
    | o, f :: rest => decide (f.offset = o) && structAt P (o + P.cellsOf f.type) rest

/-- Cells of a type of plain data. -/
def HasTy (P : Program) : Nat → TypeId → List PV → Prop
  | 0, _, _ => False
  | n + 1, t, cells => match P.underlying t with
    | some .bool => ∃ b, cells = [.bool b]
    | some (.int k) => ∃ m, cells = [.int k m] ∧ (Lit.int k m).wf = true
    | some .string => ∃ l, cells = [.str l]
    | some (.slice e) => ∃ xs, cells = [.list xs] ∧ xs.length ≤ maxLen ∧ ∀ x ∈ xs, HasTy P n e x
    | some (.struct fs) => ∃ css : List (List PV), cells = css.flatten ∧ css.length = fs.toList.length ∧ ∀ i (h : i < css.length) (h' : i < fs.toList.length), HasTy P n (fs.toList[i]).type css[i]
    | _ => False

def blockI (w : World) : Nat → Nat := fun b => match w.heap[b]? with
  | some (.cells c _ _) => c.size
  | _ => 0

theorem mapM_get {α β : Type} {f : α → Option β} : ∀ {l : List α} {r : List β}, l.mapM f = some r → r.length = l.length ∧ ∀ i (h : i < l.length) (h' : i < r.length), f l[i] = some r[i]
  | [], r, h => by simp at h; subst h; exact ⟨rfl, fun i h => absurd h (by simp)⟩
  | x :: l, r, h => by
    simp only [List.mapM_cons, Option.bind_eq_bind, Option.bind_eq_some_iff, Option.pure_def, Option.some.injEq] at h
    obtain ⟨y, hy, ys, hys, rfl⟩ := h
    obtain ⟨e, g⟩ := mapM_get hys
    refine ⟨by simp [e], fun i hi hi' => ?_⟩
    cases i with
    | zero => exact hy
    | succ i => exact g i (by simpa using hi) (by simpa using hi')

theorem cells_get {w : World} {a : Addr} {n : Nat} {cs : List Value} (h : w.cells? 0 a n = some cs) : cs.length = n ∧ ∀ j (h : j < cs.length), w.cell? (a.add j) = some cs[j] := by
  unfold World.cells? at h
  rw [if_pos (Nat.zero_le _)] at h
  obtain ⟨e, g⟩ := mapM_get h
  rw [List.length_range] at e
  exact ⟨e, fun j hj => by have := g j (by simp; omega) hj; simpa using this⟩

theorem blockI_pos {w : World} {b o : Nat} {sp : Option Nat} {v : Value} (h : w.cell? ⟨b, o, sp⟩ = some v) : o < blockI w b ∧ sp = none := by
  unfold World.cell? at h
  unfold blockI
  split at h
  · rename_i c t fr hb
    simp only at hb
    rw [hb]
    split at h
    · cases h
    · rename_i hs
      refine ⟨(Array.getElem?_eq_some_iff.1 h).1, ?_⟩
      cases sp <;> simp_all
  · cases h

/-- Some cells, read. -/
def CellsRep (w : World) (cs : List Value) (cells : List PV) : Prop := cells.length = cs.length ∧ (∀ c ∈ cells, c.scalar = true) ∧ ∀ i (h : i < cells.length) (h' : i < cs.length), Rep (blockI w) w cs[i] cells[i]

theorem cellsRep_one {w : World} {v : Value} {p : PV} (h : Rep (blockI w) w v p) (hp : p.scalar = true) : CellsRep w [v] [p] :=
  ⟨rfl, fun c hc => by simp at hc; subst hc; exact hp, fun i hi hi' => by obtain rfl : i = 0 := (by simp at hi; exact hi); exact h⟩

theorem cellsRep_append {w : World} {cs cs' : List Value} {ps ps' : List PV} (h : CellsRep w cs ps) (h' : CellsRep w cs' ps') : CellsRep w (cs ++ cs') (ps ++ ps') := by
  obtain ⟨a1, a2, a3⟩ := h
  obtain ⟨b1, b2, b3⟩ := h'
  refine ⟨by simp [a1, b1], fun c hc => (List.mem_append.1 hc).elim (a2 c) (b2 c), fun i hi hi' => ?_⟩
  rcases Nat.lt_or_ge i ps.length with hlt | hge
  · have := a3 i hlt (by omega)
    rw [List.getElem_append_left (by omega), List.getElem_append_left hlt]; exact this
  · have hi2 : i - ps.length < ps'.length := by simp at hi; omega
    have := b3 (i - ps.length) hi2 (by omega)
    rw [List.getElem_append_right (by omega), List.getElem_append_right hge]
    simp only [a1] at this ⊢
    exact this

section
variable {P : Program} {w : World} {H : Type} {enc : TypeId × Value → H} {sp : Nat → Bool}

/-- The parts of a struct, one behind the other. -/
theorem struct_parts {n : Nat} (ih : ∀ (fuel : Nat) (t : TypeId) (cs : List Value) (x : DataW H × List MemPlace), plainTy P n t = true → DataW.trod enc P w 0 sp true fuel t cs = some x → ∃ cells, CellsRep w cs cells ∧ HasTy P n t cells) {fuel : Nat} {cs : List Value} :
    ∀ (fs : List Field) (o : Nat) (xs : List (DataW H × List MemPlace)), (∀ f ∈ fs, plainTy P n f.type = true) → plainTy.structAt P o fs = true → (fs.mapM fun f => DataW.trod enc P w 0 sp true fuel f.type ((cs.drop f.offset).take (P.cellsOf f.type))) = some xs →
      o + (fs.map fun f => P.cellsOf f.type).sum ≤ cs.length →
      ∃ css : List (List PV), CellsRep w ((cs.drop o).take (fs.map fun f => P.cellsOf f.type).sum) css.flatten ∧ css.length = fs.length ∧ ∀ i (h : i < css.length) (h' : i < fs.length), HasTy P n (fs[i]).type css[i]
  | [], o, xs, _, _, _, _ => ⟨[], by simp [CellsRep], rfl, fun i h => absurd h (by simp)⟩
  | f :: fs, o, xs, hpl, hat, hm, hle => by
    simp only [List.mapM_cons, Option.bind_eq_bind, Option.bind_eq_some_iff, Option.pure_def, Option.some.injEq] at hm
    obtain ⟨y, hy, ys, hys, rfl⟩ := hm
    simp only [plainTy.structAt, Bool.and_eq_true, decide_eq_true_eq] at hat
    obtain ⟨ho, hat⟩ := hat
    simp only [List.map_cons, List.sum_cons] at hle ⊢
    obtain ⟨cells, h1, h2⟩ := ih fuel f.type _ y (hpl f (by simp)) hy
    obtain ⟨css, g1, g2, g3⟩ := struct_parts ih fs (o + P.cellsOf f.type) ys (fun g hg => hpl g (by simp [hg])) hat hys (by omega)
    rw [ho] at h1
    refine ⟨cells :: css, ?_, by simp [g2], fun i hi hi' => ?_⟩
    · have e : (cs.drop o).take (P.cellsOf f.type + (fs.map fun f => P.cellsOf f.type).sum) = (cs.drop o).take (P.cellsOf f.type) ++ (cs.drop (o + P.cellsOf f.type)).take (fs.map fun f => P.cellsOf f.type).sum := by
        rw [List.take_add, List.drop_drop]
      rw [e, List.flatten_cons]
      exact cellsRep_append h1 g1
    · cases i with
      | zero => exact h2
      | succ i => exact g3 i (by simpa using hi) (by simpa using hi')

theorem trod_rep : ∀ (n fuel : Nat) (t : TypeId) (cs : List Value) (x : DataW H × List MemPlace), plainTy P n t = true → DataW.trod enc P w 0 sp true fuel t cs = some x → ∃ cells, CellsRep w cs cells ∧ HasTy P n t cells := by
  intro n
  induction n with
  | zero => intro fuel t cs x h; simp [plainTy] at h
  | succ n ih =>
    intro fuel t cs x hpl hx
    cases fuel with
    | zero => simp [DataW.trod] at hx
    | succ fuel =>
      simp only [plainTy] at hpl
      cases hu : P.underlying t with
      | none => rw [hu] at hpl; cases hpl
      | some d =>
        rw [hu] at hpl
        cases d <;> first | (exfalso; simp at hpl; done) | skip
        case bool =>
          rcases cs with _ | ⟨v, _ | ⟨v2, r⟩⟩
          · simp [DataW.trod, hu] at hx
          · cases v <;> simp only [DataW.trod, hu, reduceCtorEq] at hx
            exact ⟨[.bool _], cellsRep_one (.bool _) rfl, by simp [HasTy, hu]⟩
          · simp [DataW.trod, hu] at hx
        case int k =>
          rcases cs with _ | ⟨v, _ | ⟨v2, r⟩⟩
          · simp [DataW.trod, hu] at hx
          · cases v <;> simp only [DataW.trod, hu, reduceCtorEq] at hx
            rename_i k' m
            split at hx
            · rename_i hk
              obtain ⟨rfl, hwf⟩ := hk
              exact ⟨[.int _ _], cellsRep_one (.int _ _) rfl, by simp only [HasTy, hu]; exact ⟨_, rfl, hwf⟩⟩
            · cases hx
          · simp [DataW.trod, hu] at hx
        case string =>
          rcases cs with _ | ⟨v, _ | ⟨v2, r⟩⟩
          · simp [DataW.trod, hu] at hx
          · cases v <;> simp only [DataW.trod, hu, reduceCtorEq] at hx
            rename_i s
            exact ⟨[.str s.data.toList], cellsRep_one (.str _ _ rfl) rfl, by simp [HasTy, hu]⟩
          · simp [DataW.trod, hu] at hx
        case slice e =>
          simp only [Bool.and_eq_true, decide_eq_true_eq] at hpl
          obtain ⟨hpl, hpos⟩ := hpl
          rcases cs with _ | ⟨v, _ | ⟨v2, r⟩⟩
          · simp [DataW.trod, hu] at hx
          · cases v <;> simp only [DataW.trod, hu, reduceCtorEq] at hx
            rename_i ad len cap
            cases ad with
            | none =>
              rcases len with _ | len
              · rcases cap with _ | cap
                · exact ⟨[.list []], cellsRep_one .nil rfl, by simp [HasTy, hu]⟩
                · simp at hx
              · simp at hx
            | some a =>
              simp only at hx
              split at hx
              · rename_i hc
                obtain ⟨elems, he, hx⟩ := Option.bind_eq_some_iff.1 hx
                obtain ⟨hl, hg⟩ := mapM_get he
                rw [List.length_range] at hl
                have hel : ∀ i, i < len → ∃ cells, CellsRep w (((List.range (P.cellsOf e)).map fun j => (w.cell? ((a.add (i * P.cellsOf e)).add j)).getD undef)) cells ∧ HasTy P n e cells ∧ (∀ j, j < P.cellsOf e → ∃ v, w.cell? ((a.add (i * P.cellsOf e)).add j) = some v) := by
                  intro i hi
                  have := hg i (by simpa using hi) (by omega)
                  simp only [List.getElem_range] at this
                  obtain ⟨cs, hcs, htr⟩ := Option.bind_eq_some_iff.1 this
                  obtain ⟨c1, c2⟩ := cells_get hcs
                  have e1 : (List.range (P.cellsOf e)).map (fun j => (w.cell? ((a.add (i * P.cellsOf e)).add j)).getD undef) = cs := by
                    apply List.ext_getElem
                    · simp [c1]
                    · intro j h1 h2
                      simp only [List.getElem_map, List.getElem_range, c2 j h2, Option.getD_some]
                  rw [e1]
                  obtain ⟨cells, h1, h2⟩ := ih fuel e cs _ hpl htr
                  exact ⟨cells, h1, h2, fun j hj => ⟨_, c2 j (by omega)⟩⟩
                rcases Nat.eq_zero_or_pos len with h0 | h0
                · subst h0
                  exact ⟨[.list []], cellsRep_one (.empty _ _) rfl, by simp only [HasTy, hu]; exact ⟨[], rfl, by simp, by simp⟩⟩
                have hel' : ∀ i, ∃ cells : List PV, i < len → CellsRep w (((List.range (P.cellsOf e)).map fun j => (w.cell? ((a.add (i * P.cellsOf e)).add j)).getD undef)) cells ∧ HasTy P n e cells ∧ (∀ j, j < P.cellsOf e → ∃ v, w.cell? ((a.add (i * P.cellsOf e)).add j) = some v) := fun i => by
                  by_cases hi : i < len
                  · obtain ⟨c, hc⟩ := hel i hi; exact ⟨c, fun _ => hc⟩
                  · exact ⟨[], fun h => absurd h hi⟩
                obtain ⟨f, hf⟩ := Classical.axiomOfChoice hel'
                obtain ⟨b, o, spt⟩ := a
                -- the place has no spot, if it has a cell
                have hadd : ∀ i j, 0 < P.cellsOf e → i < len → j < P.cellsOf e → ((⟨b, o, spt⟩ : Addr).add (i * P.cellsOf e)).add j = ⟨b, o + (i * P.cellsOf e + j), none⟩ := by
                  intro i j hp hi hj
                  have hsp : spt = none := by
                    obtain ⟨v, hv⟩ := (hf 0 h0).2.2 0 hp
                    simp only [Nat.zero_mul, Addr.add_zero'] at hv
                    exact (blockI_pos hv).2
                  subst hsp
                  have h1 : (⟨b, o, none⟩ : Addr).add (i * P.cellsOf e) = ⟨b, o + i * P.cellsOf e, none⟩ := by unfold Addr.add; split <;> simp_all
                  rw [h1]
                  have h2 : (⟨b, o + i * P.cellsOf e, none⟩ : Addr).add j = ⟨b, o + i * P.cellsOf e + j, none⟩ := by unfold Addr.add; split <;> simp_all
                  rw [h2]; congr 1; omega
                have hz := hpos
                have hsp : spt = none := by
                  obtain ⟨v, hv⟩ := (hf 0 h0).2.2 0 hz
                  simp only [Nat.zero_mul, Addr.add_zero'] at hv
                  exact (blockI_pos hv).2
                subst hsp
                have hlen : ((List.range len).map f).length = len := by simp
                refine ⟨[.list ((List.range len).map f)], cellsRep_one ?_ rfl, by
                  simp only [HasTy, hu]
                  refine ⟨_, rfl, by simp; omega, fun x hx => ?_⟩
                  obtain ⟨i, hi, rfl⟩ := List.mem_map.1 hx
                  exact (hf i (by simpa using hi)).2.1⟩
                have hrep : Rep (blockI w) w (.slice (some ⟨b, o, none⟩) ((List.range len).map f).length cap) (.list ((List.range len).map f)) := by
                  refine .list b o cap (P.cellsOf e) _ (fun i j => (w.cell? ⟨b, o + (i * P.cellsOf e + j), none⟩).getD undef) (fun x hx => ?_) (fun x hx => ?_) (fun i hi => ?_) (by simp; omega) (fun i j hi hj => ?_) fun i hi j hj => ?_
                  · obtain ⟨i, hi, rfl⟩ := List.mem_map.1 hx
                    exact (hf i (by simpa using hi)).1.2.1
                  · obtain ⟨i, hi, rfl⟩ := List.mem_map.1 hx
                    have := (hf i (by simpa using hi)).1.1
                    simpa using this
                  · rw [hlen] at hi
                    have hi1 : i / P.cellsOf e < len := (Nat.div_lt_iff_lt_mul hz).2 hi
                    have hi2 := Nat.mod_lt i hz
                    obtain ⟨v, hv⟩ := (hf _ hi1).2.2 _ hi2
                    rw [hadd _ _ hz hi1 hi2] at hv
                    have := (blockI_pos hv).1
                    have h3 := Nat.div_add_mod i (P.cellsOf e)
                    rw [Nat.mul_comm] at h3
                    omega
                  · rw [hlen] at hi
                    obtain ⟨v, hv⟩ := (hf i hi).2.2 j hj
                    rw [hadd i j hz hi hj] at hv
                    rw [hv]; rfl
                  · have hi' : i < len := by simpa using hi
                    have hc2 := (hf i hi').1
                    have hj' : j < (f i).length := by simpa using hj
                    have hjs : j < P.cellsOf e := by have := hc2.1; simp at this; omega
                    have := hc2.2.2 j hj' (by simpa using hjs)
                    simp only [List.getElem_map, List.getElem_range] at this ⊢
                    rw [hadd i j hz hi' hjs] at this
                    exact this
                rw [hlen] at hrep
                exact hrep
              · cases hx
          · simp [DataW.trod, hu] at hx
        case struct fs =>
          simp only [Bool.and_eq_true, decide_eq_true_eq] at hpl
          obtain ⟨⟨hp1, hp2⟩, hp3⟩ := hpl
          simp only [DataW.trod, hu] at hx
          split at hx
          · rename_i hlen
            obtain ⟨xs, hxs, _⟩ := Option.map_eq_some_iff.1 hx
            obtain ⟨css, h1, h2, h3⟩ := struct_parts (enc := enc) (sp := sp) ih fs.toList 0 xs (fun f hf => List.all_eq_true.1 hp1 f hf) hp3 hxs (by omega)
            rw [hp2, List.drop_zero, List.take_of_length_le (by omega)] at h1
            exact ⟨css.flatten, h1, by simp only [HasTy, hu]; exact ⟨css, rfl, h2, h3⟩⟩
          · cases hx

end
end Go.Proofs.YtbekdlgkoleblaaDoor
