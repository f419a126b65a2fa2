/- The law's row, out of its contract. -/
import Derived.Test.YtbekdlgkoleblaaDoorEngS
namespace Go.Proofs.YtbekdlgkoleblaaDoor
open Go.ChangeShapes Go.WideShapes Go.ChangeAt Go.RowKit

/-- An argument of a type of plain data. -/
def ArgTy (P : Program) (n : Nat) (t : TypeId) (p : PV) : Prop := HasTy P n t p.cells ∧ match P.underlying t with
  | some (.struct _) => ∃ cells, p = .agg cells
  | _ => p.scalar = true

def ArgsTy (P : Program) (n : Nat) : List TypeId → List PV → Prop
  | [], [] => True
  | t :: ts, p :: ps => ArgTy P n t p ∧ ArgsTy P n ts ps
  | _, _ => False

section
variable {P : Program} {w : World} {H : Type} {enc : TypeId × Value → H}

theorem arg_rep {n : Nat} {t : TypeId} {v : Value} {d : DataW H} {ps : List MemPlace} {sp : Nat → Bool} (hpl : plainTy P n t = true) (hok : ∃ r base, Value.okWide P w r base t v) (h : DataW.Trod enc P w 0 sp true t v d ps) :
    ∃ p, Rep (blockI w) w v p ∧ ArgTy P n t p := by
  obtain ⟨fuel, hx⟩ := h
  obtain ⟨cells, ⟨h1, h2, h3⟩, h4⟩ := trod_rep n fuel t _ _ hpl hx
  obtain ⟨r, base, hok⟩ := hok
  unfold ArgTy
  cases hu : P.underlying t with
  | none => cases n <;> simp [plainTy, hu] at hpl
  | some dd =>
    by_cases hs : ∃ fs, dd = .struct fs
    · obtain ⟨fs, rfl⟩ := hs
      unfold Value.okWide at hok
      rw [hu] at hok
      obtain ⟨cs, rfl, _, _⟩ := hok
      refine ⟨.agg cells, .agg cs cells h2 (by simpa [Value.cells] using h1.symm) fun i hi hi' => ?_, h4, cells, rfl⟩
      have := h3 i hi (by simpa [Value.cells] using hi')
      simpa [Value.cells] using this
    · have hone : ∃ p, cells = [p] := by
        cases n with
        | zero => simp [plainTy] at hpl
        | succ n =>
          simp only [HasTy, hu] at h4
          cases dd <;> first | exact h4.elim | skip
          · obtain ⟨b, rfl⟩ := h4; exact ⟨_, rfl⟩
          · obtain ⟨m, rfl, _⟩ := h4; exact ⟨_, rfl⟩
          · obtain ⟨l, rfl⟩ := h4; exact ⟨_, rfl⟩
          · obtain ⟨xs, rfl, _⟩ := h4; exact ⟨_, rfl⟩
          · exact absurd ⟨_, rfl⟩ hs
      obtain ⟨p, rfl⟩ := hone
      have hsc : p.scalar = true := h2 p (by simp)
      have hcs : p.cells = [p] := by cases p <;> first | rfl | cases hsc
      have hv : v.cells = #[v] := by
        cases v <;> first | rfl | skip
        rename_i cs
        -- an aggregate's type is a struct's or an array's
        exfalso
        have hsz : cs.size = 1 := by simpa [Value.cells] using h1.symm
        unfold Value.okWide at hok
        rw [hu] at hok
        cases dd <;> first | exact absurd ⟨_, rfl⟩ hs | skip
        all_goals
          first
            | (exfalso; cases n <;> simp [plainTy, hu] at hpl; done)
            | (simp only [Cell.okWide, Cell.ok, hu] at hok)
      refine ⟨p, ?_, by rw [hcs]; exact h4, ?_⟩
      · have := h3 0 (by simp) (by rw [hv]; simp)
        simpa [hv] using this
      · cases dd <;> first | exact hsc | exact absurd ⟨_, rfl⟩ hs

/-- All arguments. -/
theorem args_rep {n : Nat} : ∀ {ts : List TypeId} {vs : List Value} {ds : List (DataW H)} {ps : List MemPlace}, (∀ t ∈ ts, plainTy P n t = true) → (∀ (j : Nat) t v, ts[j]? = some t → vs[j]? = some v → ∃ r base, Value.okWide P w r base t v) →
    DataW.TrodAll enc P w 0 (fun _ => true) true ts vs ds ps → ∃ pvs : List PV, pvs.length = vs.length ∧ vs.length = ts.length ∧ ds.length = ts.length ∧ ArgsTy P n ts pvs ∧ ∀ i (h : i < pvs.length) (h' : i < vs.length), Rep (blockI w) w vs[i] pvs[i]
  | [], [], [], ps, _, _, _ => ⟨[], rfl, rfl, rfl, trivial, fun i h => absurd h (by simp)⟩
  | t :: ts, v :: vs, d :: ds, ps, hpl, hok, h => by
    obtain ⟨p, q, h1, h2, rfl⟩ := h
    obtain ⟨x, hx1, hx2⟩ := arg_rep (hpl t (by simp)) (hok 0 t v rfl rfl) h1
    obtain ⟨pvs, e1, e2, e3, e4, e5⟩ := args_rep (fun t ht => hpl t (by simp [ht])) (fun j t v ht hv => hok (j + 1) t v (by simpa using ht) (by simpa using hv)) h2
    refine ⟨x :: pvs, by simp [e1], by simp [e2], by simp [e3], ⟨hx2, e4⟩, fun i hi hi' => ?_⟩
    cases i with
    | zero => exact hx1
    | succ i => exact e5 i (by simpa using hi) (by simpa using hi')
  | [], _ :: _, _, _, _, _, h => by cases h
  | [], [], _ :: _, _, _, _, h => by cases h
  | _ :: _, [], _, _, _, _, h => by cases h
  | _ :: _, _ :: _, [], _, _, _, h => by cases h

theorem trodAll_stays (hl : laidOutB P = true) {W W' : World} (hb : Below W.heap.size W W') {sp : Nat → Bool} : ∀ {ts : List TypeId} {vs : List Value} {ds : List (DataW H)} {ps : List MemPlace},
    (∀ t ∈ ts, P.readableRec t = true ∧ t < P.types.size) → DataW.TrodAll enc P W 0 (fun _ => true) true ts vs ds ps → (∀ p ∈ ps, p.block < W.heap.size) → (∀ p ∈ ps, sp p.block = true) → DataW.TrodAll enc P W' 0 sp true ts vs ds ps
  | [], [], [], ps, _, h, _, _ => h
  | t :: ts, v :: vs, d :: ds, ps, ht, h, hlt, hsp => by
    obtain ⟨p, q, h1, h2, rfl⟩ := h
    refine ⟨p, q, WideElems.Trod_stays hl (ht t (by simp)).1 (ht t (by simp)).2 h1 (fun x hx => hb.same (hlt x (by simp [hx]))) (fun x hx => hsp x (by simp [hx])), trodAll_stays hl hb (fun t h => ht t (by simp [h])) h2 (fun x hx => hlt x (by simp [hx])) (fun x hx => hsp x (by simp [hx])), rfl⟩
  | [], _ :: _, _, _, _, h, _, _ => by cases h
  | [], [], _ :: _, _, _, h, _, _ => by cases h
  | _ :: _, [], _, _, _, h, _, _ => by cases h
  | _ :: _, _ :: _, [], _, _, h, _, _ => by cases h

theorem post_of_below' {f : Func} {s : ChangeSpec} {apart fresh handsOn again : Bool} {W W' : World} {args : Array Value} {v : Value} {ds gs : List (DataW H)} {before pa pv : List MemPlace}
    (hW : DataW.Whole enc P f.params.toList s.vars apart W args.toList ds gs before)
    (hres : ∀ (b : Nat) (sp : Nat → Bool) (hd : Bool), DataW.TrodAll enc P W' b sp hd f.resultTypes.toList (v.resultList f.resultTypes.size) (s.fn H (ds ++ gs)).results [])
    (hargs : ∀ sp : Nat → Bool, (∀ p ∈ before, sp p.block = true) → DataW.TrodAll enc P W' 0 sp true f.params.toList args.toList (s.fn H (ds ++ gs)).args pa)
    (hvars : ∀ sp : Nat → Bool, (∀ p ∈ before, sp p.block = true) → DataW.TrodVars enc P W' sp s.vars (s.fn H (ds ++ gs)).vars pv)
    (hps : before = pa ++ pv) (hb : Below W.heap.size W W')
    (hok : ∀ (j : Nat) (t : TypeId) (r : Value), f.resultTypes[j]? = some t → (v.resultList f.resultTypes.size)[j]? = some r → Value.okWide P W' .any 0 t r) :
    s.post enc P f apart fresh handsOn again W args v W' := by
  have hlt : ∀ p ∈ before, p.block < W.heap.size := fun p hp => hW.lt p hp
  have hold : ∀ p ∈ before, (fun b => decide (b < W.heap.size)) p.block = true := fun p hp => by simpa using hlt p hp
  refine ⟨ds, gs, before, [], pa, pv, hW, hres _ _ _, hargs _ hold, hvars _ hold, World.keptBut_mono (fun p hp => ⟨hp, ?_⟩) (hb.frame (· ∈ before)), fun _ => ?_⟩
  · rw [hps, List.mem_append] at hp
    exact Or.inr hp
  · obtain ⟨_, _, _, _, _, hz, hn⟩ := hW
    refine ⟨hok, _, _, ([] ++ pa) ++ pv, ⟨[] ++ pa, pv, trodAll_append (hargs _ (fun _ _ => rfl)) (hres _ _ _), hvars _ (fun _ _ => rfl), rfl, ?_, ?_⟩, ?_⟩
    · intro b off hp
      have hin : MemPlace.cell b off ∈ before := by rw [hps]; simpa using hp
      rw [hb.frozen (hlt _ hin)]
      exact hz b off hin
    · intro ha
      have := hn ha
      rw [hps] at this
      simpa using this
    · intro p hp _
      rw [hps]
      simpa using hp

end

/-- A law's contract as a row asks it: no variable is read; the table holds at the start. -/
theorem law_core {P : Program} {f : FuncId} {fn : Func} {s : ChangeSpec} {tb : TypeId} (n : Nat) {H : Type} {enc : TypeId × Value → H}
    (hlaid : laidOutB P = true) (hrt : fn.resultTypes = #[tb]) (htb : P.underlying tb = some .bool) (hpl : ∀ t ∈ fn.params.toList, plainTy P n t = true ∧ P.readableRec t = true ∧ t < P.types.size) (hv : s.vars = [])
    (hs : ∀ ds : List (DataW H), ds.length = fn.params.toList.length → (s.fn H ds).results = [.lit (.bool true)] ∧ (s.fn H ds).args = ds ∧ (s.fn H ds).vars = [])
    (hlaw : ∀ ps : List PV, ArgsTy P n fn.params.toList ps → ∀ gl, PCalls P f (ps.map .pv) gl fun r _ => r = .pv (.bool true))
    (W : World) (args : Array Value) (ds gs : List (DataW H)) (before : List MemPlace) (hval : ∀ (j : Nat) t v, fn.params[j]? = some t → args[j]? = some v → Value.okWide P W .any 0 t v)
    (hW : DataW.Whole enc P fn.params.toList s.vars false W args.toList ds gs before) (htab : TabHolds W) : Calls P f args W fun e W' => ∃ v, e = .returned v ∧ s.post enc P fn false true false false W args v W' := by
  have hW' := hW
  obtain ⟨p, q, hA, hV, rfl, hfz, hnd⟩ := hW
  rw [hv] at hV
  obtain ⟨rfl, rfl⟩ := trodVars_none hV
  obtain ⟨pvs, e1, e2, e3, e4, e5⟩ := args_rep (n := n) (fun t ht => (hpl t ht).1) (fun j t v ht hv => ⟨_, _, hval j t v (by simpa using ht) (by simpa using hv)⟩) hA
  have hcall := hlaw pvs e4 (fun _ => (0, 0)) (blockI W) (fun _ => none) W args
    ⟨fun b hb => by unfold blockI; simp [hb], fun _ _ h => (by cases h), fun _ _ _ h => (by cases h), ⟨0, fun _ _ h => by cases h⟩, htab, fun _ _ h => by cases h⟩ (by simpa using e1.symm)
    (fun i h h' => by
      have := e5 i (by simpa using h) (by simpa using h')
      simpa using SRel.pv (g := ⟨blockI W, fun _ => none, fun _ => none, fun _ => none⟩) this)
  refine hcall.mono fun e W' ⟨v, r, gl', im', he, hr, hrr, hext, _⟩ => ?_
  subst hr
  refine ⟨v, he, ?_⟩
  cases hrr with
  | pv hrep =>
    have hvb := rep_bool hrep
    subst hvb
    have hb : Below W.heap.size W W' := ⟨hext.os, hext.tape, hext.output, hext.size, fun k hk => hext.blk k hk (fun _ h => by cases h)⟩
    obtain ⟨s1, s2, s3⟩ := hs ds e3
    refine post_of_below' (pa := p) (pv := []) hW' (fun b sp hd => ?_) (fun sp hsp => ?_) (fun sp _ => ?_) (by simp) hb (fun j t r ht hr => ?_)
    · rw [List.append_nil, s1, hrt]
      exact ⟨[], [], ⟨1, by simp [DataW.trod, Value.cells, htb]⟩, rfl, rfl⟩
    · rw [List.append_nil, s2]
      exact trodAll_stays hlaid hb (fun t ht => (hpl t ht).2) hA (fun x hx => hW'.lt x (by simpa using hx)) (fun x hx => hsp x (by simpa using hx))
    · rw [List.append_nil, s3, hv]; rfl
    · rw [hrt] at ht hr
      cases j with
      | zero =>
        simp at ht; subst ht
        simp [Value.resultList] at hr
        subst hr
        simp [Value.okWide, htb, Cell.okWide, Cell.ok]
      | succ j => simp at ht

/-- A law's lifted contract: no variable is read. -/
theorem law_lifted {C : Checked} {os : Os} {f : FuncId} {fn : Func} {s : ChangeSpec} {tb : TypeId} (n : Nat) {H : Type} {enc : TypeId × Value → H} (hown : ownKnob C.prog.godebug = none) (started : os.Started) (hin : C.prog.inits.idxOf? f = none) (hf : C.prog.funcs[f]? = some fn)
    (hlaid : laidOutB C.prog = true) (hrt : fn.resultTypes = #[tb]) (htb : C.prog.underlying tb = some .bool) (hpl : ∀ t ∈ fn.params.toList, plainTy C.prog n t = true ∧ C.prog.readableRec t = true ∧ t < C.prog.types.size) (hv : s.vars = [])
    (hs : ∀ ds : List (DataW H), ds.length = fn.params.toList.length → (s.fn H ds).results = [.lit (.bool true)] ∧ (s.fn H ds).args = ds ∧ (s.fn H ds).vars = [])
    (hw : ∃ (w : World) (tape : Tape) (i : Input), w.os = os ∧ World.Shaped C.prog (w.forCall tape i) ∧ i.vars = [] ∧ Input.okWide C.prog (w.forCall tape i) Reach.any w.heap.size f i ∧
      ChangeSpec.pre6 enc C.prog fn s [] false (w.forCall tape i).memory i.args ∧ ({} : Assume).holds C.prog (lone (Frame.enter C.prog f i.args CallKind.normal) [] (w.forCall tape i)))
    (htab : ∀ W : World, TabHolds W) (hlaw : ∀ ps : List PV, ArgsTy C.prog n fn.params.toList ps → ∀ gl, PCalls C.prog f (ps.map .pv) gl fun r _ => r = .pv (.bool true)) :
    ReturnsInHanded {} C os f .any (s.pre6 enc C.prog fn [] false) (s.post enc C.prog fn false true false false) := by
  refine returnsInHanded_of_change hown started hin hf hw ?_
  intro W base args ds gs before hval hW _ _
  exact law_core n hlaid hrt htb hpl hv hs hlaw W args ds gs before (fun j t v h1 h2 => hval j t v h1 h2) hW (htab W)

/-- The row's lift, where variables are laid. -/
theorem law_lifted_laid {C : Checked} {os : Os} {f : FuncId} {fn : Func} {s : ChangeSpec} {tb : TypeId} (n : Nat) {H : Type} {enc : TypeId × Value → H} (X : World → Prop) (hX : ∀ w w' : World, w.heap = w'.heap → X w → X w') (htab : ∀ W, X W → TabHolds W)
    (hown : ownKnob C.prog.godebug = none) (started : os.Started) (hin : C.prog.inits.idxOf? f = none) (hf : C.prog.funcs[f]? = some fn)
    (hlaid : laidOutB C.prog = true) (hrt : fn.resultTypes = #[tb]) (htb : C.prog.underlying tb = some .bool) (hpl : ∀ t ∈ fn.params.toList, plainTy C.prog n t = true ∧ C.prog.readableRec t = true ∧ t < C.prog.types.size) (hv : s.vars = [])
    (hs : ∀ ds : List (DataW H), ds.length = fn.params.toList.length → (s.fn H ds).results = [.lit (.bool true)] ∧ (s.fn H ds).args = ds ∧ (s.fn H ds).vars = [])
    (hw : ∃ (w : World) (tape : Tape) (i : Input), w.os = os ∧ (w.forCall tape i).Shaped C.prog ∧ i.vars = [] ∧ Input.okWide C.prog (w.forCall tape i) .any w.heap.size f i ∧
      ((s.pre enc C.prog fn [] false (w.forCall tape i).memory i.args ∧ X (w.forCall tape i).memory) ∧ sizedMet enc C.prog fn (OpenSpec.ofChange s) false (w.forCall tape i).memory i.args) ∧ ({} : Assume).holds C.prog (lone (Frame.enter C.prog f i.args .normal) [] (w.forCall tape i)))
    (hlaw : ∀ ps : List PV, ArgsTy C.prog n fn.params.toList ps → ∀ gl, PCalls C.prog f (ps.map .pv) gl fun r _ => r = .pv (.bool true)) :
    ReturnsInHanded {} C os f .any (fun w args => (s.pre enc C.prog fn [] false w args ∧ X w) ∧ sizedMet enc C.prog fn (OpenSpec.ofChange s) false w args) (s.post enc C.prog fn false true false false) := by
  refine returnsInHanded_of_change_and (X := fun w _ => X w) (fun w w' _ e h => hX w w' e h) hown started hin hf hw ?_
  intro W base args ds gs before hval hW _ _ hL _
  exact law_core n hlaid hrt htb hpl hv hs hlaw W args ds gs before (fun j t v h1 h2 => hval j t v h1 h2) hW (htab W hL)

end Go.Proofs.YtbekdlgkoleblaaDoor
