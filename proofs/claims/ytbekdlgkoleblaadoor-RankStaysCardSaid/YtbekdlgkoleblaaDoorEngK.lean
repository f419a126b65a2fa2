/- Each operation does what the pure one says: all of them together; calls; regions; bodies. -/
import Derived.Test.YtbekdlgkoleblaaDoorEngJ
namespace Go.Proofs.YtbekdlgkoleblaaDoor

section
variable {P : Program} {F : Fr} {g : Gh} {s : PS} {a : Act} {w : World}

theorem some3 {c c' : Prop} {v v' : SV} {e e' : Eff} (h : some (c, v, e) = some (c', v', e')) : c = c' ∧ v = v' ∧ e = e' := by
  injection h with h; injection h with h1 h; injection h with h2 h3; exact ⟨h1, h2, h3⟩
theorem map3 {α : Type} {x : Option α} {f : α → Prop × SV × Eff} {c : Prop} {v : SV} {e : Eff} (h : x.map f = some (c, v, e)) : ∃ y, x = some y ∧ f y = (c, v, e) := Option.map_eq_some_iff.1 h
theorem lo_tmp (h : Inv F g s a w) {y : Operand} {k : IntKind} {l : Int} (he : ev s.env y = some (.pv (.int k l))) (h0 : 0 ≤ l) : a.eval y = .int k (l.toNat : Int) := by
  rw [rep_int (srel_pv (ev_ok h he))]; congr 1; omega
theorem args_two {x y : Operand} {l : Array Operand} (h : l.toList = [x, y]) : l = #[x, y] := by rw [← h]
theorem types_two {x y : TypeId} {l : Array TypeId} (h : l.toList = [x, y]) : l = #[x, y] := by rw [← h]

theorem intIn_eq {v : Option SV} {k : IntKind} {n : Int} (h : intIn v = some (k, n)) : v = some (.pv (.int k n)) := by
  unfold intIn at h; split at h
  · injection h with h; injection h with h1 h2; subst h1; subst h2; rfl
  · cases h
theorem boolIn_eq {v : Option SV} {b : Bool} (h : boolIn v = some b) : v = some (.pv (.bool b)) := by
  unfold boolIn at h; split at h
  · injection h with h; subst h; rfl
  · cases h
theorem strIn_eq {v : Option SV} {l : List UInt8} (h : strIn v = some l) : v = some (.pv (.str l)) := by
  unfold strIn at h; split at h
  · injection h with h; subst h; rfl
  · cases h
theorem aggIn_eq {v : Option SV} {l : List PV} (h : aggIn v = some l) : v = some (.pv (.agg l)) := by
  unfold aggIn at h; split at h
  · injection h with h; subst h; rfl
  · cases h
theorem tupIn_eq {v : Option SV} {l : List SV} (h : tupIn v = some l) : v = some (.tup l) := by
  unfold tupIn at h; split at h
  · injection h with h; subst h; rfl
  · cases h
theorem ptrIn_eq {v : Option SV} {p : Ptr} (h : ptrIn v = some p) : v = some p.sv := by
  unfold ptrIn at h; split at h <;> first | (injection h with h; subst h; rfl) | cases h

set_option maxHeartbeats 1000000 in
theorem plainT_ok {t : TypeId} (h : plainT P t = true) (v : Value) (w : World) : (Instr.makeInterface t v).run P w = .ok (.iface t v) w := by
  unfold plainT at h
  split at h
  · cases h
  · rename_i d hd hn
    have := run_underlying hn w
    cases d <;> simp [Instr.makeInterface, this]
    exact hd _ rfl
  · cases h

theorem did_iface {o : Oper} {t : TypeId} {x : Operand} (h : Inv F g s a w) (hd : dstFits F.nt o.dst) (ho : o.op = .makeInterface t x) (hp : plainT P t = true) {p : PV} (hx : (ev s.env x).bind SV.pv? = some p) : Did P F ((s.eff .none).put o.dst (.pv (.ifc t p))) o a w :=
  did_pure h hd (exec_v (sem := Instr.makeInterface t (a.eval x)) (by simp [execOp, ho]) (plainT_ok hp _ _)) (.pv (.ifc t _ p (evp_ok h hx)))

theorem allPv_ok (h : Inv F g s a w) : ∀ {l : List Operand} {ps : List PV}, allPv s.env l = some ps → (l.map a.eval).length = ps.length ∧ ∀ i (h : i < ps.length) (h' : i < (l.map a.eval).length), Rep g.im w (l.map a.eval)[i] ps[i]
  | [], ps, hp => by simp only [allPv, Option.some.injEq] at hp; subst hp; exact ⟨rfl, fun i h => absurd h (by simp)⟩
  | x :: rest, ps, hp => by
    simp only [allPv] at hp
    split at hp
    · rename_i p l h1 h2
      injection hp with hp; subst hp
      obtain ⟨e, f⟩ := allPv_ok h h2
      refine ⟨by simpa using e, fun i hi hi' => ?_⟩
      cases i with
      | zero => exact evp_ok h h1
      | succ i => exact f i (by simpa using hi) (by simpa using hi')
    · cases hp

theorem did_makeFunc {o : Oper} {f : FuncId} {first caps : Array Operand} (h : Inv F g s a w) (hd : dstFits F.nt o.dst) (ho : o.op = .makeFunc (.func f) first caps) {ps : List PV} (h1 : first.toList = []) (h2 : allPv s.env caps.toList = some ps) :
    Did P F ((s.eff .none).put o.dst (.pv (.clo f ps))) o a w := by
  obtain ⟨e, r⟩ := allPv_ok h h2
  have hf : first = #[] := by simpa using h1
  refine did_pure h hd (v := .func (.func f) #[] (caps.map a.eval)) (exec_v (sem := Instr.makeFunc (.func f) (first.map a.eval) (caps.map a.eval)) (by simp [execOp, ho]) ?_) (.pv (.clo f _ ps (by simpa using e) fun i hi hi' => ?_))
  · subst hf; simp [Instr.makeFunc]
  · have := r i hi (by simpa using hi')
    simpa using this

theorem pstep_ok {imm : TypeId → Bool} {o : Oper} {c : Prop} {v : SV} {eff : Eff} (h : Inv F g s a w) (hp : pstep P imm s o = some (c, v, eff)) (hc : c) (hd : dstFits F.nt o.dst) : Did P F ((s.eff eff).put o.dst v) o a w := by
  cases hop : o.op
  case move x =>
    simp only [pstep, hop] at hp
    obtain ⟨y, hy, e⟩ := map3 hp; obtain ⟨rfl, rfl, rfl⟩ := some3 (congrArg some e)
    exact did_move h hd (.inl hop) hy
  case assign x =>
    simp only [pstep, hop] at hp
    obtain ⟨y, hy, e⟩ := map3 hp; obtain ⟨rfl, rfl, rfl⟩ := some3 (congrArg some e)
    exact did_move h hd (.inr hop) hy
  case pick x y z =>
    simp only [pstep, hop] at hp
    split at hp
    · rename_i t ht
      obtain ⟨y, hy, e⟩ := map3 hp; obtain ⟨rfl, rfl, rfl⟩ := some3 (congrArg some e)
      exact did_pick h hd hop (boolIn_eq ht) hy
    · cases hp
  case alloc t =>
    simp only [pstep, hop] at hp
    split at hp
    · rename_i d z hdst hz
      obtain ⟨rfl, rfl, rfl⟩ := some3 hp
      exact did_alloc h hd hop hz hc
    · cases hp
  case box t x =>
    simp only [pstep, hop] at hp
    split at hp
    · rename_i d p hdst hx
      split at hp
      · obtain ⟨rfl, rfl, rfl⟩ := some3 hp
        exact did_boxIm h hd hop hx
      · obtain ⟨rfl, rfl, rfl⟩ := some3 hp
        exact did_box h hd hop hx hc
    · cases hp
  case build t parts =>
    simp only [pstep, hop] at hp
    split at hp
    · rename_i z hfs hz
      obtain ⟨y, hy, e⟩ := map3 hp; obtain ⟨rfl, rfl, rfl⟩ := some3 (congrArg some e)
      exact did_build h hd hop hfs hz hy
    · cases hp
  case buildSlice t n parts =>
    simp only [pstep, hop] at hp
    split at hp
    · rename_i e size b he
      split at hp
      · rename_i z hz
        obtain ⟨y, hy, e⟩ := Option.bind_eq_some_iff.1 hp
        have hcc : c = (z.length = size ∧ 0 < size ∧ n * size ≤ 16777216) := by
          unfold buildRow at e
          split at e
          · injection e with e; injection e with e _; exact e.symm
          · injection e with e; injection e with e _; exact e.symm
          · cases e
        rw [hcc] at hc
        exact did_buildSlice h hd hop he hz hy hc.1 hc.2.1 hc.2.2 e
      · cases hp
    · cases hp
  case load t x =>
    simp only [pstep, hop] at hp
    split at hp
    · rename_i size ag d off ht hx
      split at hp
      · rename_i cells hl
        obtain ⟨y, hy, e⟩ := map3 hp; obtain ⟨rfl, rfl, rfl⟩ := some3 (congrArg some e)
        exact did_loadLoc h hd hop ht (ptrIn_eq hx) hl hy
      · cases hp
    · rename_i size ag cells off ht hx
      obtain ⟨y, hy, e⟩ := map3 hp; obtain ⟨rfl, rfl, rfl⟩ := some3 (congrArg some e)
      exact did_loadRef h hd hop ht (ptrIn_eq hx) hy
    · cases hp
  case store t x y =>
    simp only [pstep, hop] at hp
    split at hp
    · rename_i size ag d off p ht hx hy hdst
      split at hp
      · rename_i cells hl
        obtain ⟨rfl, rfl, rfl⟩ := some3 hp
        exact did_store h hop hdst ht (ptrIn_eq hx) hy hl hc.1 hc.2
      · cases hp
    · cases hp
  case nilCheck x =>
    simp only [pstep, hop] at hp
    obtain ⟨p, hx, e⟩ := map3 hp; obtain ⟨rfl, rfl, rfl⟩ := some3 (congrArg some e)
    refine did_nilCheck h hd hop (ptrIn_eq hx) ?_
    cases p
    · exact .inr (.inl ⟨_, _, rfl⟩)
    · exact .inl ⟨_, _, rfl⟩
    · exact .inr (.inr ⟨_, _, rfl⟩)
  case binOp op t x y t' =>
    simp only [pstep, hop] at hp
    by_cases hn : nilC y = true
    · rw [if_pos hn] at hp
      exact did_sliceNil h hd hop hn hp hc
    rw [if_neg hn] at hp
    split at hp
    · rename_i p q hx hy
      obtain ⟨⟨c', r⟩, hr, e⟩ := map3 hp; obtain ⟨rfl, rfl, rfl⟩ := some3 (congrArg some e)
      exact did_binOp h hd hop hx hy hr hc
    · rename_i hx0 hy
      split at hp <;> first | cases hp | obtain ⟨rfl, rfl, rfl⟩ := some3 hp
      · rename_i p hx; exact (did_ptrNil h hd hop (ptrIn_eq hx) hy hc).1 rfl
      · rename_i p hx; exact (did_ptrNil h hd hop (ptrIn_eq hx) hy hc).2 rfl
    · cases hp
  case unOp op t x =>
    cases op <;> simp only [pstep, hop, reduceCtorEq] at hp
    · obtain ⟨⟨k, n⟩, hx, e⟩ := map3 hp; obtain ⟨rfl, rfl, rfl⟩ := some3 (congrArg some e)
      exact did_neg h hd hop (intIn_eq hx)
    · obtain ⟨b, hx, e⟩ := map3 hp; obtain ⟨rfl, rfl, rfl⟩ := some3 (congrArg some e)
      exact did_not h hd hop (boolIn_eq hx)
  case convert src dst x =>
    simp only [pstep, hop] at hp
    split at hp
    · obtain ⟨rfl, rfl, rfl⟩ := some3 hp
      rename_i ds k k' n h1 h2 h3
      exact did_convert h hd hop h1 h2 (intIn_eq h3)
    · rename_i e h1 h2 h3
      split at hp
      · rename_i xs h4 h5
        obtain ⟨l, hl, e⟩ := map3 hp; obtain ⟨rfl, rfl, rfl⟩ := some3 (congrArg some e)
        exact did_bytes h hd hop h1 h2 h4 h5 hl
      · cases hp
    · cases hp
  case slice t x lo hi mx =>
    cases mx with
    | some m => simp [pstep, hop] at hp
    | none =>
      simp only [pstep, hop] at hp
      split at hp <;> first | cases hp | obtain ⟨rfl, rfl, rfl⟩ := some3 hp
      · rename_i e size b xs he hx h1 h2
        obtain rfl := Option.map_eq_none_iff.1 h1
        obtain rfl := Option.map_eq_none_iff.1 h2
        have := did_slice h hd hop he hx hc 0 xs.length (by omega) (Nat.le_refl _) (.inl ⟨rfl, rfl⟩) (.inl ⟨rfl, rfl⟩)
        simpa using this
      · rename_i e size b xs k l he hx h1 h2
        obtain ⟨y, rfl, hy⟩ := Option.map_eq_some_iff.1 h1
        obtain rfl := Option.map_eq_none_iff.1 h2
        have := did_slice h hd hop he hx hc.1 l.toNat xs.length (by omega) (Nat.le_refl _) (.inr ⟨y, k, rfl, lo_tmp h (intIn_eq hy) hc.2.1⟩) (.inl ⟨rfl, rfl⟩)
        simpa using this
      · rename_i e size b xs k m he hx h1 h2
        obtain rfl := Option.map_eq_none_iff.1 h1
        obtain ⟨y, rfl, hy⟩ := Option.map_eq_some_iff.1 h2
        have := did_slice h hd hop he hx hc.1 0 m.toNat (by omega) (by omega) (.inl ⟨rfl, rfl⟩) (.inr ⟨y, k, rfl, lo_tmp h (intIn_eq hy) hc.2.1⟩)
        simpa using this
      · rename_i e size b xs k l k' m he hx h1 h2
        obtain ⟨y, rfl, hy⟩ := Option.map_eq_some_iff.1 h1
        obtain ⟨z, rfl, hz⟩ := Option.map_eq_some_iff.1 h2
        exact did_slice h hd hop he hx hc.1 l.toNat m.toNat (by omega) (by omega) (.inr ⟨y, k, rfl, lo_tmp h (intIn_eq hy) hc.2.1⟩) (.inr ⟨z, k', rfl, lo_tmp h (intIn_eq hz) (by omega)⟩)
  case fieldAddr t x f =>
    simp only [pstep, hop] at hp
    split at hp <;> first | cases hp | obtain ⟨rfl, rfl, rfl⟩ := some3 hp
    · rename_i fo size ag d off hf hx; exact did_fieldLoc h hd hop hf hc (ptrIn_eq hx)
    · rename_i fo size ag cells off hf hx; exact did_fieldRef h hd hop hf hc (ptrIn_eq hx)
    · rename_i fo size ag k off hf hx; exact did_fieldMtr h hd hop hf hc (ptrIn_eq hx)
  case field t x f =>
    simp only [pstep, hop] at hp
    split at hp
    · rename_i fo size ag cells hf hx
      obtain ⟨y, hy, e⟩ := map3 hp; obtain ⟨rfl, rfl, rfl⟩ := some3 (congrArg some e)
      exact did_field h hd hop hf (aggIn_eq hx) hy
    · cases hp
  case indexAddr t x ix =>
    simp only [pstep, hop] at hp
    split at hp
    · obtain ⟨rfl, rfl, rfl⟩ := some3 hp
      rename_i e size b xs k i he hx hi
      exact did_indexAddr h hd hop he hx (intIn_eq hi) hc.1 hc.2
    · rename_i e size b k i he hx hi
      obtain ⟨q, hq, e⟩ := map3 hp; obtain ⟨rfl, rfl, rfl⟩ := some3 (congrArg some e)
      exact did_indexLrow h hd hop he hq (intIn_eq hi) hc
    · cases hp
  case index t x ix =>
    simp only [pstep, hop] at hp
    split at hp <;> first | cases hp | obtain ⟨rfl, rfl, rfl⟩ := some3 hp
    rename_i l k i ht hx hi
    exact did_index h hd hop ht (strIn_eq hx) (intIn_eq hi) hc
  case makeInterface t x =>
    simp only [pstep, hop] at hp
    split at hp
    · rename_i hpl
      obtain ⟨p, hx, e⟩ := map3 hp; obtain ⟨rfl, rfl, rfl⟩ := some3 (congrArg some e)
      exact did_iface h hd hop hpl hx
    · cases hp
  case makeFunc fn first caps =>
    cases fn <;> simp only [pstep, hop, reduceCtorEq] at hp
    split at hp
    · rename_i f ps h1 h2
      obtain ⟨rfl, rfl, rfl⟩ := some3 hp
      exact did_makeFunc h hd hop h1 h2
    · cases hp
  case extract x i =>
    simp only [pstep, hop] at hp
    obtain ⟨v', hv, e⟩ := map3 hp; obtain ⟨rfl, rfl, rfl⟩ := some3 (congrArg some e)
    obtain ⟨vs, hx, hi⟩ := Option.bind_eq_some_iff.1 hv
    exact did_extract h hd hop (tupIn_eq hx) hi
  case call c' =>
    obtain ⟨callee, args, argTypes⟩ := c'
    cases callee
    case builtin b =>
      cases b <;> simp only [pstep, hop, reduceCtorEq] at hp
      case len =>
        split at hp
        · obtain ⟨rfl, rfl, rfl⟩ := some3 hp
          rename_i xs e h1 h2
          obtain ⟨x, hx, e1⟩ : ∃ x, args.toList = [x] ∧ (ev s.env x).bind SV.pv? = some (.list xs) := by
            cases hl : args.toList with
            | nil => rw [hl] at h1; cases h1
            | cons x r => cases r with
              | nil => rw [hl] at h1; simp only [List.map_cons, List.map_nil, List.cons.injEq, and_true] at h1; exact ⟨x, rfl, h1⟩
              | cons y r => rw [hl] at h1; simp at h1
          have ha : args = #[x] := by rw [← hx]
          obtain ⟨t, ht, hu⟩ := Option.bind_eq_some_iff.1 h2
          exact did_lenList h hd hop rfl ha ht hu e1
        · obtain ⟨rfl, rfl, rfl⟩ := some3 hp
          rename_i l h1 h2
          obtain ⟨x, hx, e1⟩ : ∃ x, args.toList = [x] ∧ (ev s.env x).bind SV.pv? = some (.str l) := by
            cases hl : args.toList with
            | nil => rw [hl] at h1; cases h1
            | cons x r => cases r with
              | nil => rw [hl] at h1; simp only [List.map_cons, List.map_nil, List.cons.injEq, and_true] at h1; exact ⟨x, rfl, h1⟩
              | cons y r => rw [hl] at h1; simp at h1
          have ha : args = #[x] := by rw [← hx]
          obtain ⟨t, ht, hu⟩ := Option.bind_eq_some_iff.1 h2
          exact did_lenStr h hd hop rfl ha ht hu e1
        · rename_i e h1 h2
          obtain ⟨q, hq, e⟩ := map3 hp; obtain ⟨rfl, rfl, rfl⟩ := some3 (congrArg some e)
          obtain ⟨x, hx, e1⟩ : ∃ x, args.toList = [x] ∧ lrowIn (ev s.env x) = some q := by
            unfold lrowsIn at hq
            split at hq
            · rename_i x hx; exact ⟨x, hx, hq⟩
            · cases hq
          have ha : args = #[x] := by rw [← hx]
          obtain ⟨t, ht, hu⟩ := Option.bind_eq_some_iff.1 h2
          exact did_lenLrow h hd hop rfl ha ht hu e1
        · cases hp
      case max =>
        split at hp <;> first | cases hp | obtain ⟨rfl, rfl, rfl⟩ := some3 hp
        rename_i k p k' q h1
        obtain ⟨x, y, hx, e1, e2⟩ : ∃ x y, args.toList = [x, y] ∧ intIn (ev s.env x) = some (k, p) ∧ intIn (ev s.env y) = some (k', q) := by
          rcases hl : args.toList with _ | ⟨x, _ | ⟨y, _ | ⟨z, r⟩⟩⟩ <;> rw [hl] at h1 <;> simp at h1
          exact ⟨x, y, rfl, h1.1, h1.2⟩
        exact did_max h hd hop rfl (args_two hx) (intIn_eq e1) (intIn_eq e2)
      case min =>
        split at hp <;> first | cases hp | obtain ⟨rfl, rfl, rfl⟩ := some3 hp
        rename_i k p k' q h1
        obtain ⟨x, y, hx, e1, e2⟩ : ∃ x y, args.toList = [x, y] ∧ intIn (ev s.env x) = some (k, p) ∧ intIn (ev s.env y) = some (k', q) := by
          rcases hl : args.toList with _ | ⟨x, _ | ⟨y, _ | ⟨z, r⟩⟩⟩ <;> rw [hl] at h1 <;> simp at h1
          exact ⟨x, y, rfl, h1.1, h1.2⟩
        exact did_min h hd hop rfl (args_two hx) (intIn_eq e1) (intIn_eq e2)
      case append =>
        split at hp
        · rename_i x y t t' d h1 h2 h3
          split at hp
          · rename_i htt; subst htt
            split at hp <;> first | cases hp | obtain ⟨rfl, rfl, rfl⟩ := some3 hp
            · rename_i e size b k xs ys he hx hy
              obtain ⟨c1, c2, c3, c4, c5, c6⟩ := hc
              exact did_appendOwn h hd hop rfl (args_two h1) (types_two h2) he c1 hx hy c2 c3 c4 c5 c6
            · rename_i e size b xs ys he hx hy
              obtain ⟨c1, c2, c3, c4, c5, c6⟩ := hc
              exact did_appendFull h hd hop rfl (args_two h1) (types_two h2) he c1 d hx hy c2 c3 c4 c5 c6
          · cases hp
        · cases hp
    all_goals simp [pstep, hop] at hp
  all_goals simp [pstep, hop] at hp

end
end Go.Proofs.YtbekdlgkoleblaaDoor
