/- Regions that draw their order (2). -/
import Derived.Test.YtbekdlgkoleblaaDoorEngN
namespace Go.Proofs.YtbekdlgkoleblaaDoor
set_option linter.unusedSimpArgs false

/-- What an operation that writes nothing comes to. -/
def pdet (P : Program) (imm : TypeId → Bool) (ops : Array Oper) (s : PS) (x : Oper) : Option (Prop × SV) := match pwant ops s x with
  | some true => (pstep P imm s x).map fun q => (q.1, q.2.1)
  | some false => some (True, .undef)
  | none => none

section
variable {P : Program} {imm : TypeId → Bool} {nt : Nat} {ops : Array Oper} {s s2 : PS} {f : SV → SV}

def LikeAll (ops : Array Oper) (f : SV → SV) (x : Oper) (s s2 : PS) : Prop := ∀ t, t ∈ x.looksAt ops → s2.env t = (s.env t).map f

theorem LikeAll.op {x : Oper} (h : LikeAll ops f x s s2) : Like f x.op s s2 := fun t ht => h t (List.mem_append_left _ (List.mem_filterMap.2 ⟨.tmp t, by simpa using ht, rfl⟩))

theorem pwant_like (hf : Mild f) {x : Oper} (h : LikeAll ops f x s s2) : pwant ops s2 x = pwant ops s x := by
  unfold pwant
  split
  · rfl
  · rename_i j want hg
    cases hd : (ops[j]?).bind (·.dst) with
    | none => rfl
    | some t =>
      have ht : t ∈ x.looksAt ops := List.mem_append_right _ (by rw [hg]; simp [hd])
      simp only [Option.map_some, h t ht]
      rcases s.env t with _ | v
      · rfl
      · cases v <;> simp only [Option.map_some, hf.undef, hf.pv, hf.loc, hf.mtr, hf.full, hf.tup, hf.lrow]
        rename_i k xs; rcases hf.own k xs with e | e <;> rw [e]

theorem pdet_like (hf : Mild f) {x : Oper} (hq : quietOp imm x.op = true) (h : LikeAll ops f x s s2) (hl : loadsOp x.op = true → s2.loc = s.loc) :
    pdet P imm ops s2 x = (pdet P imm ops s x).map fun q => (q.1, f q.2) := by
  unfold pdet
  rw [pwant_like hf h]
  split
  · rw [quiet_like hf hq h.op hl]
    cases pstep P imm s x <;> rfl
  · simp [hf.undef]
  · rfl

theorem quiet_eff {x : Oper} {c : Prop} {v : SV} {e : Eff} (hq : quietOp imm x.op = true) (h : pstep P imm s x = some (c, v, e)) : e = .none := by
  cases hop : x.op <;> rw [hop] at hq <;> simp only [quietOp, Bool.false_eq_true] at hq
  case move y => simp only [pstep, hop] at h; obtain ⟨_, _, e⟩ := map3 h; exact (some3 (congrArg some e)).2.2.symm
  case assign y => simp only [pstep, hop] at h; obtain ⟨_, _, e⟩ := map3 h; exact (some3 (congrArg some e)).2.2.symm
  case pick c x y =>
    simp only [pstep, hop] at h
    split at h
    · obtain ⟨_, _, e⟩ := map3 h; exact (some3 (congrArg some e)).2.2.symm
    · cases h
  case box t y =>
    simp only [pstep, hop] at h
    rw [hq] at h
    split at h
    · exact (some3 h).2.2.symm
    · cases h
  case build t parts =>
    simp only [pstep, hop] at h
    split at h
    · obtain ⟨_, _, e⟩ := map3 h; exact (some3 (congrArg some e)).2.2.symm
    · cases h
  case load t y =>
    simp only [pstep, hop] at h
    split at h
    · split at h
      · obtain ⟨_, _, e⟩ := map3 h; exact (some3 (congrArg some e)).2.2.symm
      · cases h
    · obtain ⟨_, _, e⟩ := map3 h; exact (some3 (congrArg some e)).2.2.symm
    · cases h
  case nilCheck y => simp only [pstep, hop] at h; obtain ⟨_, _, e⟩ := map3 h; exact (some3 (congrArg some e)).2.2.symm
  case makeInterface t y =>
    simp only [pstep, hop] at h
    split at h
    · obtain ⟨_, _, e⟩ := map3 h; exact (some3 (congrArg some e)).2.2.symm
    · cases h
  case binOp op t x y t' =>
    simp only [pstep, hop] at h
    split at h
    · exact sliceNil_eff h
    split at h
    · obtain ⟨_, _, e⟩ := map3 h; exact (some3 (congrArg some e)).2.2.symm
    · split at h <;> first | exact (some3 h).2.2.symm | cases h
    · cases h
  case unOp op t y =>
    cases op
    case neg => simp only [pstep, hop] at h; obtain ⟨_, _, e⟩ := map3 h; exact (some3 (congrArg some e)).2.2.symm
    case not => simp only [pstep, hop] at h; obtain ⟨_, _, e⟩ := map3 h; exact (some3 (congrArg some e)).2.2.symm
    all_goals (simp [pstep, hop] at h)
  case convert src dst y =>
    simp only [pstep, hop] at h
    split at h
    · exact (some3 h).2.2.symm
    · split at h
      · obtain ⟨_, _, e⟩ := map3 h; exact (some3 (congrArg some e)).2.2.symm
      · cases h
    · cases h
  case slice t y lo hi mx =>
    cases mx with
    | some m => simp [pstep, hop] at h
    | none =>
      simp only [pstep, hop] at h
      split at h <;> first | exact (some3 h).2.2.symm | cases h
  case fieldAddr t y fi => simp only [pstep, hop] at h; split at h <;> first | exact (some3 h).2.2.symm | cases h
  case field t y fi =>
    simp only [pstep, hop] at h
    split at h
    · obtain ⟨_, _, e⟩ := map3 h; exact (some3 (congrArg some e)).2.2.symm
    · cases h
  case indexAddr t y ix =>
    simp only [pstep, hop] at h
    split at h
    · exact (some3 h).2.2.symm
    · obtain ⟨_, _, e⟩ := map3 h; exact (some3 (congrArg some e)).2.2.symm
    · cases h
  case index t y ix => simp only [pstep, hop] at h; split at h <;> first | exact (some3 h).2.2.symm | cases h
  case extract y i => simp only [pstep, hop] at h; obtain ⟨_, _, e⟩ := map3 h; exact (some3 (congrArg some e)).2.2.symm
  case call c =>
    obtain ⟨callee, args, argTypes⟩ := c
    rcases callee with fv | ⟨r, m⟩ | b
    · simp at hq
    · simp at hq
    cases b <;> first | (exfalso; simp at hq; done) | skip
    all_goals
      simp only [pstep, hop] at h
      split at h <;> first | exact (some3 h).2.2.symm | cases h | (obtain ⟨_, _, e⟩ := map3 h; exact (some3 (congrArg some e)).2.2.symm)

theorem quiet_nocall {x : Oper} (hq : quietOp imm x.op = true) : goCall x.op = none := by
  cases hop : x.op <;> rw [hop] at hq <;> first | rfl | skip
  rename_i c
  obtain ⟨callee, args, ts⟩ := c
  cases callee <;> first | rfl | simp [quietOp] at hq

theorem pop1_nocall {x : Oper} (h : goCall x.op = none) (K : PS → Prop) :
    pop1 P imm nt s x K = match pstep P imm s x with | some (c, v, eff) => c ∧ dstFits nt x.dst ∧ K ((s.eff eff).put x.dst v) | none => False := by
  unfold pop1
  rw [h]
  rfl

theorem pop1_call {o : Oper} {c : Call} (h : goCall o.op = some c) (K : PS → Prop) :
    pop1 P imm nt s o K = match pcallOf P s.env c with
      | some (f, l) => callFits P f ∧ dstFits nt o.dst ∧ PCalls P f l s.gl fun r gl' => K (({ s with gl := gl' } : PS).answer o.dst r)
      | none => False := by
  simp only [pop1, h]
  rfl

theorem pargs_congr {e e2 : Nat → Option SV} : ∀ {l : List Operand}, (∀ x ∈ l, ev e2 x = ev e x) → pargs e2 l = pargs e l
  | [], _ => rfl
  | x :: rest, h => by
    simp only [pargs]
    rw [h x (by simp), pargs_congr fun y hy => h y (by simp [hy])]

/-- An operation, and one that writes nothing and may go either way, which has gone ahead. -/
theorem ptarget_congr {e e2 : Nat → Option SV} {callee : Callee} (h : ∀ x, (callee = .value x ∨ ∃ m, callee = .invoke x m) → ev e2 x = ev e x) (l : List SV) : ptarget P e2 callee l = ptarget P e callee l := by
  cases callee with
  | value x => cases x <;> first | rfl | (simp only [ptarget, h _ (.inl rfl)])
  | invoke x m => simp only [ptarget, h _ (.inr ⟨_, rfl⟩)]
  | builtin b => rfl

/-- What a call looks at. -/
theorem pcallOf_congr {e e2 : Nat → Option SV} {c : Call} (h : ∀ t, Operand.tmp t ∈ (Op.call c).operands → e2 t = e t) : pcallOf P e2 c = pcallOf P e c := by
  have hv : ∀ x, x ∈ (Op.call c).operands → ev e2 x = ev e x := fun x hx => by
    cases x with
    | tmp t => exact h t hx
    | _ => rfl
  unfold pcallOf
  rw [pargs_congr fun x hx => hv x (by simp only [Op.operands, Call.operands]; exact Array.mem_append_right _ (by simpa using hx))]
  cases pargs e c.args.toList with
  | none => rfl
  | some l =>
    simp only [Option.bind_some]
    refine ptarget_congr (fun x hx => hv x ?_) l
    simp only [Op.operands, Call.operands]
    rcases hx with hx | ⟨m, hx⟩ <;> rw [hx] <;> exact Array.mem_append_left _ (by simp)

theorem buildRow_eff {c0 c : Prop} {d : Option Nat} {rows : List (List PV)} {v : SV} {k : Nat} {cells : List PV} (h : buildRow c0 d rows = some (c, v, .loc k cells)) : False := by
  unfold buildRow at h
  split at h
  · injection h with h; injection h with _ h; injection h with _ h; cases h
  · injection h with h; injection h with _ h; injection h with _ h; cases h
  · cases h
theorem makeFunc_eff {o : Oper} {fn : Fn} {first caps : Array Operand} {c : Prop} {v : SV} {e : Eff} (hop : o.op = .makeFunc fn first caps) (h : pstep P imm s o = some (c, v, e)) : e = .none := by
  cases fn <;> simp only [pstep, hop, reduceCtorEq] at h
  split at h
  · exact (some3 h).2.2.symm
  · cases h
theorem allPv_congr {e e2 : Nat → Option SV} : ∀ {l : List Operand}, (∀ x ∈ l, ev e2 x = ev e x) → allPv e2 l = allPv e l
  | [], _ => rfl
  | x :: l, h => by
    have e1 := h x (by simp)
    have e2' : allPv e2 l = allPv e l := allPv_congr fun y hy => h y (List.mem_cons_of_mem _ hy)
    simp only [allPv, e1, e2']

theorem loc_eff {o : Oper} {c : Prop} {v : SV} {k : Nat} {cells : List PV} (h : pstep P imm s o = some (c, v, .loc k cells)) : locOp o.op = true := by
  by_cases hq : quietOp imm o.op = true
  · have := quiet_eff hq h; cases this
  · cases hop : o.op <;> rw [hop] at hq <;> simp only [quietOp, not_true_eq_false] at hq <;> first | rfl | skip
    case call cc =>
      obtain ⟨callee, args, argTypes⟩ := cc
      rcases callee with fv | ⟨r, m⟩ | b
      · simp [pstep, hop] at h
      · simp [pstep, hop] at h
      cases b <;> first | (exfalso; simp at hq; done) | skip
      case append =>
        simp only [pstep, hop] at h
        split at h
        · split at h
          · split at h <;> first | cases h | (obtain ⟨_, _, e⟩ := some3 h; cases e)
          · cases h
        · cases h
      all_goals simp [pstep, hop] at h
    case makeFunc => have := makeFunc_eff hop h; cases this
    case buildSlice =>
      simp only [pstep, hop] at h
      split at h
      · split at h
        · obtain ⟨_, _, e⟩ := Option.bind_eq_some_iff.1 h; exact (buildRow_eff e).elim
        · cases h
      · cases h
    all_goals simp [pstep, hop] at h

theorem pone_quiet {x : Oper} (hq : quietOp imm x.op = true) {K : PS → Prop} : pone P imm nt ops x s K ↔ ∃ c v, pdet P imm ops s x = some (c, v) ∧ c ∧ dstFits nt x.dst ∧ K (s.put x.dst v) := by
  unfold pone pdet
  cases pwant ops s x with
  | none => simp
  | some b =>
    cases b with
    | true =>
      simp only [pop1_nocall (quiet_nocall hq)]
      cases hs : pstep P imm s x with
      | none => simp
      | some q =>
        obtain ⟨c, v, e⟩ := q
        obtain rfl := quiet_eff hq hs
        simp only [PS.eff, Option.map_some, Option.some.injEq, Prod.mk.injEq]
        constructor
        · rintro ⟨h1, h2, h3⟩; exact ⟨c, v, ⟨rfl, rfl⟩, h1, h2, h3⟩
        · rintro ⟨c', v', ⟨rfl, rfl⟩, h1, h2, h3⟩; exact ⟨h1, h2, h3⟩
    | false =>
      simp only [Option.some.injEq, Prod.mk.injEq]
      constructor
      · rintro ⟨h1, h2⟩; exact ⟨True, .undef, ⟨rfl, rfl⟩, trivial, h1, h2⟩
      · rintro ⟨c', v', ⟨rfl, rfl⟩, _, h2, h3⟩; exact ⟨h2, h3⟩

theorem pone_mono {o : Oper} {K K' : PS → Prop} (h : pone P imm nt ops o s K) (hk : ∀ s', K s' → K' s') : pone P imm nt ops o s K' := by
  unfold pone at *
  split at h
  · unfold pop1 at *
    split at h
    · split at h
      · exact ⟨h.1, h.2.1, h.2.2.mono fun r gl' => hk _⟩
      · exact h.elim
    · split at h
      · exact ⟨h.1, h.2.1, hk _ h.2.2⟩
      · exact h.elim
  · exact ⟨h.1, hk _ h.2⟩
  · exact h.elim

theorem upd_comm {α : Type} (f : Nat → α) {i j : Nat} (x y : α) (h : i ≠ j) : upd (upd f i x) j y = upd (upd f j y) i x := by
  funext t; simp only [upd]; split <;> split <;> simp_all
theorem dem_upd (k : Nat) (e : Nat → Option SV) (d : Nat) (v : SV) : dem k (upd e d (some v)) = upd (dem k e) d (some (SV.demote k v)) := by
  funext t; simp only [dem, upd]; split <;> simp

/-- What is put into a slot that nobody looks at. -/
theorem put_env_ne {d : Option Nat} {v : SV} {t : Nat} (h : ∀ k, d = some k → t ≠ k) : (s.put d v).env t = s.env t := by
  cases d with
  | none => rfl
  | some k => exact upd_ne _ _ (h k rfl)

theorem put_put {d e : Option Nat} {u v : SV} (h : ∀ k, d = some k → e ≠ some k) : (s.put d u).put e v = (s.put e v).put d u := by
  cases d with
  | none => rfl
  | some i => cases e with
    | none => rfl
    | some j => simp only [PS.put]; rw [upd_comm _ _ _ (fun e => h i rfl (by rw [e]))]

theorem eff_put {d : Option Nat} {v : SV} {e : Eff} : ∃ f, Mild f ∧ (∀ t, (s.eff e).env t = (s.env t).map f) ∧ (s.put d v).eff e = (s.eff e).put d (f v) := by
  cases e with
  | none => exact ⟨id, mild_id, fun t => by simp [PS.eff], rfl⟩
  | loc k cells => exact ⟨id, mild_id, fun t => by simp [PS.eff], by cases d <;> rfl⟩
  | app k =>
    refine ⟨SV.demote k, mild_demote k, fun t => rfl, ?_⟩
    cases d with
    | none => rfl
    | some d => simp only [PS.eff, PS.put, dem_upd]

/-- An answer is put: what was put ahead stays. -/
theorem answer_put {d e : Option Nat} {v : SV} {r : RV} (h : ∀ k, d = some k → e ≠ some k) : ∃ f, Mild f ∧ (∀ t, e ≠ some t → (s.answer e r).env t = (s.env t).map f) ∧ (s.put d v).answer e r = (s.answer e r).put d (f v) ∧ (s.answer e r).loc = s.loc := by
  cases e with
  | none => exact ⟨id, mild_id, fun t _ => by simp [PS.answer], rfl, rfl⟩
  | some j =>
    have hcomm : ∀ {x : Nat → Option SV} {y z : Option SV} {i : Nat}, d = some i → upd (upd x i y) j z = upd (upd x j z) i y := fun {x y z i} hi => upd_comm _ _ _ (fun e => h i hi (by rw [e]))
    cases r with
    | pv p =>
      refine ⟨id, mild_id, fun t ht => ?_, ?_, rfl⟩
      · simp only [PS.answer]; rw [upd_ne _ _ (fun e => ht (by rw [e]))]; simp
      · cases d with
        | none => rfl
        | some i => simp only [PS.answer, PS.put, id]; rw [hcomm rfl]
    | newm c e =>
      refine ⟨id, mild_id, fun t ht => ?_, ?_, rfl⟩
      · simp only [PS.answer]; rw [upd_ne _ _ (fun e => ht (by rw [e]))]; simp
      · cases d with
        | none => rfl
        | some i => simp only [PS.answer, PS.put, id]; rw [hcomm rfl]
    | fresh xs =>
      refine ⟨SV.demote j, mild_demote j, fun t ht => ?_, ?_, rfl⟩
      · simp only [PS.answer]; rw [upd_ne _ _ (fun e => ht (by rw [e]))]; rfl
      · cases d with
        | none => rfl
        | some i => simp only [PS.answer, PS.put, dem_upd]; rw [hcomm rfl]
    | tup vs =>
      refine ⟨SV.demote j, mild_demote j, fun t ht => ?_, ?_, rfl⟩
      · simp only [PS.answer]; rw [upd_ne _ _ (fun e => ht (by rw [e]))]; rfl
      · cases d with
        | none => rfl
        | some i => simp only [PS.answer, PS.put, dem_upd]; rw [hcomm rfl]

/-- An operation looks at its operands alone. -/
theorem pstep_congr {o : Oper} (h : ∀ t, Operand.tmp t ∈ o.op.operands → s2.env t = s.env t) (hl : s2.loc = s.loc) : pstep P imm s2 o = pstep P imm s o := by
  have hev : ∀ x, x ∈ o.op.operands → ev s2.env x = ev s.env x := fun x hx => by
    cases x with
    | tmp t => exact h t hx
    | _ => rfl
  by_cases hq : quietOp imm o.op = true
  · have := quiet_like (P := P) (f := id) (s := s) (s2 := s2) mild_id hq (fun t ht => by rw [h t ht]; simp) (fun _ => hl)
    rw [this]; simp
  · cases hop : o.op <;> rw [hop] at hq hev <;> simp only [quietOp, not_true_eq_false, Bool.false_eq_true, not_false_eq_true] at hq
    case alloc t => simp only [pstep, hop, hl]
    case box t x => simp only [pstep, hop, hl, hev x (by simp [Op.operands])]
    case store t x y => simp only [pstep, hop, hl, hev x (by simp [Op.operands]), hev y (by simp [Op.operands])]
    case buildSlice t n parts =>
      have e : (parts.toList.map fun q => (q.1, (ev s2.env q.2).bind SV.pv?)) = parts.toList.map fun q => (q.1, (ev s.env q.2).bind SV.pv?) := List.map_congr_left fun q hq => by
        rw [hev q.2 (by simp only [Op.operands]; exact List.mem_toArray.2 (List.mem_map.2 ⟨q, hq, rfl⟩))]
      simp only [pstep, hop, e]
    case makeFunc fn first caps =>
      have e : allPv s2.env caps.toList = allPv s.env caps.toList := allPv_congr fun x hx => hev x (by simp only [Op.operands]; exact Array.mem_append_right _ (by simpa using hx))
      cases fn <;> simp only [pstep, hop, e]
    case call c =>
      obtain ⟨callee, args, argTypes⟩ := c
      rcases callee with fv | ⟨r, m⟩ | b
      · simp [pstep, hop]
      · simp [pstep, hop]
      cases b <;> first | (exfalso; simp at hq; done) | skip
      case append =>
        simp only [pstep, hop]
        split
        · rename_i x y t t' d h1 _ _
          have hx : x ∈ args.toList := by rw [h1]; simp
          have hy : y ∈ args.toList := by rw [h1]; simp
          rw [hev x (by simp [Op.operands, Call.operands]; simpa using hx), hev y (by simp [Op.operands, Call.operands]; simpa using hy)]
        · rfl
      all_goals simp [pstep, hop]
    all_goals simp [pstep, hop]

theorem pone_ahead {o x : Oper} (hq : quietOp imm x.op = true) (hfree : freeOld imm ops x o = true ∨ freeOld imm ops o x = true) {c : Prop} {v : SV} (hd : pdet P imm ops s x = some (c, v)) {K : PS → Prop} :
    (pone P imm nt ops o (s.put x.dst v) K → pone P imm nt ops o s fun s' => ∃ v', pdet P imm ops s' x = some (c, v') ∧ K (s'.put x.dst v')) ∧
    (pone P imm nt ops o s K → pone P imm nt ops o (s.put x.dst v) fun s'' => ∃ s' v', K s' ∧ pdet P imm ops s' x = some (c, v') ∧ s'' = s'.put x.dst v') := by
  have hap : (∀ d, x.dst = some d → d ∉ o.looksAt ops) ∧ (∀ d, x.dst = some d → o.dst ≠ some d) ∧ (∀ d, o.dst = some d → d ∉ x.looksAt ops) ∧ ¬ (loadsOp x.op = true ∧ locOp o.op = true) := by
    rcases hfree with h | h <;> simp only [freeOld, Bool.and_eq_true, Bool.not_eq_true', Bool.and_eq_false_iff] at h
    · obtain ⟨⟨⟨h1, h2⟩, h3⟩, h4⟩ := h
      obtain ⟨a1, a2, a3⟩ := Oper.apart_spec h1
      exact ⟨a1, a2, a3, fun ⟨e1, e2⟩ => by rcases h3 with h3 | h3 <;> simp_all⟩
    · obtain ⟨⟨⟨h1, h2⟩, h3⟩, h4⟩ := h
      obtain ⟨a1, a2, a3⟩ := Oper.apart_spec h1
      exact ⟨a3, fun d hd e => a2 d e hd, a1, fun ⟨e1, e2⟩ => by rcases h4 with h4 | h4 <;> simp_all⟩
  obtain ⟨h1, h2, h3, h4⟩ := hap
  have hlooks : ∀ t, t ∈ o.looksAt ops → (s.put x.dst v).env t = s.env t := fun t ht => put_env_ne fun k hk e => h1 k hk (e ▸ ht)
  have hw : pwant ops (s.put x.dst v) o = pwant ops s o := pwant_like (f := id) mild_id fun t ht => by rw [hlooks t ht]; simp
  have hops : ∀ t, Operand.tmp t ∈ o.op.operands → (s.put x.dst v).env t = s.env t := fun t ht => hlooks t (List.mem_append_left _ (List.mem_filterMap.2 ⟨.tmp t, by simpa using ht, rfl⟩))
  have hlocs : (s.put x.dst v).loc = s.loc := by cases x.dst <;> rfl
  have hgl : (s.put x.dst v).gl = s.gl := by cases x.dst <;> rfl
  -- x behind o's own writing of its slot
  have hx : ∀ {s' : PS} {f : SV → SV} {u : SV}, Mild f → (∀ t, s'.env t = (s.env t).map f) → (loadsOp x.op = true → s'.loc = s.loc) → pdet P imm ops (s'.put o.dst u) x = some (c, f v) := by
    intro s' f u hf he hl
    have := pdet_like (P := P) (ops := ops) (s := s) (s2 := s'.put o.dst u) hf hq (fun t ht => by rw [put_env_ne fun k hk e => h3 k hk (e ▸ ht)]; exact he t) (fun h => by rw [← hl h]; cases o.dst <;> rfl)
    rw [this, hd]; rfl
  unfold pone
  rw [hw]
  cases hwo : pwant ops s o with
  | none => exact ⟨fun h => h, fun h => h⟩
  | some b =>
    cases b with
    | false =>
      have hxs := hx (s' := s) (f := id) (u := .undef) mild_id (fun t => by simp) (fun _ => rfl)
      have hc : (s.put x.dst v).put o.dst .undef = (s.put o.dst .undef).put x.dst v := put_put h2
      exact ⟨fun ⟨a, b⟩ => ⟨a, v, hxs, hc ▸ b⟩, fun ⟨a, b⟩ => ⟨a, _, v, b, hxs, hc⟩⟩
    | true =>
      simp only []
      cases hop : goCall o.op with
      | some cc =>
        have hpa : pcallOf P (s.put x.dst v).env cc = pcallOf P s.env cc := pcallOf_congr fun t ht => hops t (by rw [goCall_eq hop]; exact ht)
        have hans : ∀ (r : RV) (gl' : Nat → Int × Int), ∃ v', pdet P imm ops (({ s with gl := gl' } : PS).answer o.dst r) x = some (c, v') ∧ ({ s.put x.dst v with gl := gl' } : PS).answer o.dst r = (({ s with gl := gl' } : PS).answer o.dst r).put x.dst v' := by
          intro r gl'
          obtain ⟨f, hf, he, hput, hloc⟩ := answer_put (s := { s with gl := gl' }) (d := x.dst) (e := o.dst) (v := v) (r := r) h2
          refine ⟨f v, ?_, ?_⟩
          · have := pdet_like (P := P) (ops := ops) (s := s) (s2 := ({ s with gl := gl' } : PS).answer o.dst r) hf hq (fun t ht => he t (fun e => h3 t e ht)) (fun _ => hloc)
            rw [this, hd]; rfl
          · rw [← hput]; cases x.dst <;> rfl
        simp only [pop1_call hop, hpa, hgl]
        cases pcallOf P s.env cc with
        | none => exact ⟨fun h => h, fun h => h⟩
        | some fl =>
          obtain ⟨fn, l⟩ := fl
          simp only []
          refine ⟨fun ⟨a1, a2, a3⟩ => ⟨a1, a2, a3.mono fun r gl' hk => ?_⟩, fun ⟨a1, a2, a3⟩ => ⟨a1, a2, a3.mono fun r gl' hk => ?_⟩⟩
          · obtain ⟨v', e1, e2⟩ := hans r gl'
            exact ⟨v', e1, e2 ▸ hk⟩
          · obtain ⟨v', e1, e2⟩ := hans r gl'
            exact ⟨_, v', hk, e1, e2⟩
      | none =>
        simp only [pop1_nocall hop, pstep_congr hops hlocs]
        cases hs : pstep P imm s o with
        | none => exact ⟨fun h => h, fun h => h⟩
        | some q =>
          obtain ⟨c', v', e⟩ := q
          simp only []
          obtain ⟨f, hf, he, hput⟩ := eff_put (s := s) (d := x.dst) (v := v) (e := e)
          have hl : loadsOp x.op = true → (s.eff e).loc = s.loc := by
            intro hlo
            cases e with
            | none => rfl
            | app k => rfl
            | loc k cells => exact absurd ⟨hlo, loc_eff hs⟩ h4
          have hxs := hx (s' := s.eff e) (u := v') hf he hl
          have hc2 : ((s.put x.dst v).eff e).put o.dst v' = ((s.eff e).put o.dst v').put x.dst (f v) := by rw [hput, put_put h2]
          exact ⟨fun ⟨a1, a2, a3⟩ => ⟨a1, a2, f v, hxs, hc2 ▸ a3⟩, fun ⟨a1, a2, a3⟩ => ⟨a1, a2, _, f v, a3, hxs, hc2⟩⟩

theorem pone_mono2 {o : Oper} {K K' : PS → Prop} (hk : ∀ s', K s' → K' s') (h : pone P imm nt ops o s K) : pone P imm nt ops o s K' := pone_mono h hk

theorem pops_cons {o : Oper} {l : List Oper} {K : PS → Prop} : pops P imm nt ops (o :: l) s K = pone P imm nt ops o s fun s' => pops P imm nt ops l s' K := rfl

/-- One that writes goes ahead of those that don't. -/
theorem pops_loud {o : Oper} {l2 : List Oper} {K : PS → Prop} : ∀ (l1 : List Oper) {s : PS}, (∀ x ∈ l1, quietOp imm x.op = true ∧ freeOld imm ops x o = true) → pops P imm nt ops (l1 ++ o :: l2) s K → pone P imm nt ops o s fun s' => pops P imm nt ops (l1 ++ l2) s' K
  | [], s, _, h => h
  | x :: l1, s, hf, h => by
    obtain ⟨hq, hfr⟩ := hf x (by simp)
    rw [List.cons_append, pops_cons, pone_quiet hq] at h
    obtain ⟨c, v, hd, hc, hdst, hk⟩ := h
    have ih := pops_loud l1 (fun y hy => hf y (by simp [hy])) hk
    refine pone_mono ((pone_ahead hq (.inl hfr) hd).1 ih) fun s' ⟨v', e1, e2⟩ => ?_
    rw [List.cons_append, pops_cons, pone_quiet hq]
    exact ⟨c, v', e1, hc, hdst, e2⟩

/-- One that doesn't write goes ahead of all. -/
theorem pops_quiet {o : Oper} (hq : quietOp imm o.op = true) {l2 : List Oper} {K : PS → Prop} : ∀ (l1 : List Oper) {s : PS} {c : Prop} {v : SV}, (∀ x ∈ l1, freeOld imm ops x o = true) → pdet P imm ops s o = some (c, v) →
    pops P imm nt ops (l1 ++ o :: l2) s K → pops P imm nt ops (l1 ++ l2) (s.put o.dst v) K
  | [], s, c, v, _, hd, h => by
    rw [List.nil_append, pops_cons, pone_quiet hq] at h
    obtain ⟨c', v', hd', hc, hdst, hk⟩ := h
    rw [hd] at hd'; injection hd' with e; injection e with e1 e2; subst e2
    exact hk
  | x :: l1, s, c, v, hf, hd, h => by
    rw [List.cons_append, pops_cons] at h ⊢
    refine pone_mono ((pone_ahead hq (.inr (hf x (by simp))) hd).2 h) fun s'' ⟨s', v', h1, h2, e⟩ => ?_
    subst e
    exact pops_quiet hq l1 (fun y hy => hf y (by simp [hy])) h2 h1

theorem calls_some {f : FuncId} {args : Array Value} {w : World} {R : Ending → World → Prop} (h : Calls P f args w R) : ∃ e w', R e w' := by
  obtain ⟨e, w', _, hr, _⟩ := h []
  exact ⟨e, w', hr⟩

/-- What an operation comes to, at some world. -/
theorem pone_live {F : Fr} {g : Gh} {a : Act} {w : World} {o : Oper} {K : PS → Prop} (h : Inv F g s a w) (hp : pone P imm F.nt ops o s K) : ∃ s' g' a' w', Inv F g' s' a' w' ∧ K s' := by
  unfold pone at hp
  split at hp
  · have hw := pop1_ok (Q := fun _ _ _ => False) h hp
    unfold Oper.wp at hw
    cases hr : (execOp a.eval o).run P w with
    | ok n w' =>
      rw [hr] at hw
      cases n <;> simp only [Oper.upon] at hw <;> first | exact hw.elim | skip
      case value v => obtain ⟨s', g', hi, hk⟩ := hw; exact ⟨s', g', _, _, hi, hk⟩
      case skip => obtain ⟨s', g', hi, hk⟩ := hw; exact ⟨s', g', _, _, hi, hk⟩
      case defer d => obtain ⟨s', g', hi, hk⟩ := hw; exact ⟨s', g', _, _, hi, hk⟩
      case enter f args =>
        obtain ⟨e, w'', he⟩ := calls_some hw
        cases e with
        | returned v => obtain ⟨s', g', hi, hk⟩ := he; exact ⟨s', g', _, _, hi, hk⟩
        | panicked c => exact he.elim
        | outgrown => obtain ⟨_, _, hx⟩ := he; exact hx.elim
      case row row args =>
        obtain ⟨v, w'', ⟨s', g', hi, hk⟩, _⟩ := hw default []
        exact ⟨s', g', _, _, hi, hk⟩
    | halt x w' => rw [hr] at hw; cases x <;> exact hw.elim
  · exact ⟨_, g, _, w, h.put hp.1 .undef, hp.2⟩
  · exact hp.elim

/-- One that doesn't write, whose turn comes later, can be done now. -/
theorem pops_now {F : Fr} {o : Oper} (hq : quietOp imm o.op = true) {l2 : List Oper} {K : PS → Prop} : ∀ (l1 : List Oper) {s : PS} {g : Gh} {a : Act} {w : World}, Inv F g s a w → (∀ x ∈ l1, freeOld imm ops x o = true) →
    pops P imm F.nt ops (l1 ++ o :: l2) s K → ∃ c v, pdet P imm ops s o = some (c, v) ∧ c ∧ dstFits F.nt o.dst
  | [], s, g, a, w, _, _, h => by
    rw [List.nil_append, pops_cons, pone_quiet hq] at h
    obtain ⟨c, v, hd, hc, hdst, _⟩ := h
    exact ⟨c, v, hd, hc, hdst⟩
  | x :: l1, s, g, a, w, hi, hf, h => by
    rw [List.cons_append, pops_cons] at h
    -- what x leaves reads alike for o
    have hlike : pone P imm F.nt ops x s fun s' => pops P imm F.nt ops (l1 ++ o :: l2) s' K ∧ ∃ f, Mild f ∧ pdet P imm ops s' o = (pdet P imm ops s o).map fun q => (q.1, f q.2) := by
      have hfr := hf x (by simp)
      simp only [freeOld, Bool.and_eq_true, Bool.not_eq_true', Bool.and_eq_false_iff] at hfr
      obtain ⟨⟨⟨h1, h2⟩, h3⟩, h4⟩ := hfr
      obtain ⟨a1, a2, a3⟩ := Oper.apart_spec h1
      have hput : ∀ {s' : PS} {f : SV → SV} {u : SV}, Mild f → (∀ t, s'.env t = (s.env t).map f) → (loadsOp o.op = true → s'.loc = s.loc) → pdet P imm ops (s'.put x.dst u) o = (pdet P imm ops s o).map fun q => (q.1, f q.2) := by
        intro s' f u hf he hl
        exact pdet_like hf hq (fun t ht => by rw [put_env_ne fun k hk e => a1 k hk (e ▸ ht)]; exact he t) (fun h => by rw [← hl h]; cases x.dst <;> rfl)
      unfold pone at h ⊢
      cases hwo : pwant ops s x with
      | none => rw [hwo] at h; exact h.elim
      | some b =>
        rw [hwo] at h
        cases b with
        | false => exact ⟨h.1, h.2, id, mild_id, hput (s' := s) (f := id) mild_id (fun t => by simp) fun _ => rfl⟩
        | true =>
          simp only [] at h ⊢
          cases hop : goCall x.op with
          | some cc =>
            simp only [pop1_call hop] at h ⊢
            split at h
            · refine ⟨h.1, h.2.1, h.2.2.mono fun r gl' hk => ⟨hk, ?_⟩⟩
              obtain ⟨f, hf, he, _, hloc⟩ := answer_put (s := { s with gl := gl' }) (d := none) (e := x.dst) (v := .undef) (r := r) (by simp)
              exact ⟨f, hf, pdet_like hf hq (fun t ht => he t fun e => a1 t e ht) fun _ => hloc⟩
            · exact h.elim
          | none =>
            simp only [pop1_nocall hop] at h ⊢
            cases hs : pstep P imm s x with
            | none => rw [hs] at h; exact h.elim
            | some q =>
              obtain ⟨c', v', e⟩ := q
              rw [hs] at h
              simp only [] at h ⊢
              obtain ⟨f, hf, he, _⟩ := eff_put (s := s) (d := none) (v := .undef) (e := e)
              refine ⟨h.1, h.2.1, h.2.2, f, hf, hput hf he fun hlo => ?_⟩
              cases e with
              | none => rfl
              | app k => rfl
              | loc k cells => exfalso; have := loc_eff hs; rcases h4 with h4 | h4 <;> simp_all
    obtain ⟨s', g', a', w', hi', hk, f, hf', e⟩ := pone_live hi hlike
    obtain ⟨c, v, hd, hc, hdst⟩ := pops_now hq l1 hi' (fun y hy => hf y (by simp [hy])) hk
    rw [e] at hd
    obtain ⟨⟨c0, v0⟩, h0, e0⟩ := Option.map_eq_some_iff.1 hd
    injection e0 with e1 e2; subst e1
    exact ⟨c0, v0, h0, hc, hdst⟩

/-- A box that is made: what it asks and does. -/
theorem pone_alloc {o : Oper} {t : TypeId} (ho : o.op = .alloc t) {K : PS → Prop} : pone P imm nt ops o s K ↔ match pwant ops s o with
    | some true => (match o.dst, zeroP P t with
      | some d, some z => s.loc d = none ∧ d < nt ∧ K { s with loc := upd s.loc d (some z), env := upd s.env d (some (.loc d 0)) }
      | _, _ => False)
    | some false => dstFits nt o.dst ∧ K (s.put o.dst .undef)
    | none => False := by
  unfold pone
  have hn : goCall o.op = none := by rw [ho]; rfl
  cases pwant ops s o with
  | none => exact Iff.rfl
  | some b =>
    cases b with
    | false => exact Iff.rfl
    | true =>
      simp only [pop1_nocall hn, pstep, ho]
      cases o.dst with
      | none => exact Iff.rfl
      | some d =>
        cases zeroP P t with
        | none => exact Iff.rfl
        | some z => exact Iff.rfl

theorem load_more {x : Oper} {t : TypeId} {y : Operand} (hop : x.op = .load t y) (he : ev s2.env y = ev s.env y) (hl : ∀ d cells, s.loc d = some cells → s2.loc d = some cells) {q : Prop × SV × Eff} (h : pstep P imm s x = some q) : pstep P imm s2 x = some q := by
  simp only [pstep, hop] at h ⊢
  rw [he]
  split at h
  · split at h
    · rename_i hc
      rw [hl _ _ hc]; exact h
    · cases h
  · exact h
  · cases h

/-- What an operation that writes nothing comes to, behind a box that is made. -/
theorem pdet_more {x : Oper} (hq : quietOp imm x.op = true) (he : ∀ t, t ∈ x.looksAt ops → s2.env t = s.env t) (hl : ∀ d cells, s.loc d = some cells → s2.loc d = some cells) {c : Prop} {v : SV} (h : pdet P imm ops s x = some (c, v)) : pdet P imm ops s2 x = some (c, v) := by
  have hla : LikeAll ops id x s s2 := fun t ht => by rw [he t ht]; simp
  unfold pdet at h ⊢
  rw [pwant_like (f := id) mild_id hla]
  cases hw : pwant ops s x with
  | none => rw [hw] at h; exact h
  | some b =>
    rw [hw] at h
    cases b with
    | false => exact h
    | true =>
      simp only [] at h ⊢
      obtain ⟨q, hs, e⟩ := Option.map_eq_some_iff.1 h
      have : pstep P imm s2 x = some q := by
        by_cases hlo : loadsOp x.op = true
        · cases hop : x.op <;> rw [hop] at hlo <;> simp only [loadsOp, Bool.false_eq_true] at hlo
          case load t y =>
            refine load_more hop ?_ hl hs
            cases y with
            | tmp t => exact he t (List.mem_append_left _ (List.mem_filterMap.2 ⟨.tmp t, by rw [hop]; simp [Op.operands], rfl⟩))
            | _ => rfl
        · rw [quiet_like (f := id) (s := s) mild_id hq hla.op (fun h => absurd h hlo), hs]; rfl
      rw [this, ← e]; rfl

/-- A box may be made. -/
def Ready (P : Program) (nt : Nat) (ops : Array Oper) (t : TypeId) (o : Oper) (s : PS) : Prop := match pwant ops s o with
  | some true => (match o.dst, zeroP P t with
    | some d, some _ => s.loc d = none ∧ d < nt
    | _, _ => False)
  | some false => dstFits nt o.dst
  | none => False

/-- A box that is made goes ahead of a load, and of a call. -/
theorem alloc_ahead {o x : Oper} {t : TypeId} (ho : o.op = .alloc t) (hr : Ready P nt ops t o s) (hx : (quietOp imm x.op || callOp x.op) = true) (hap : x.apart ops o = true) {K : PS → Prop} (h : pone P imm nt ops x s fun s' => pone P imm nt ops o s' K) :
    pone P imm nt ops o s fun s' => pone P imm nt ops x s' K := by
  obtain ⟨a1, a2, a3⟩ := Oper.apart_spec hap
  -- o, behind x's writing of its slot
  have hwo : ∀ {s' : PS} {f : SV → SV}, Mild f → (∀ t, t ∈ o.looksAt ops → s'.env t = (s.env t).map f) → pwant ops s' o = pwant ops s o := fun hf he => pwant_like hf he
  -- x, behind o
  have hxa : ∀ {s1 : PS} (_ : ∀ t, o.dst ≠ some t → s1.env t = s.env t), ∀ t, t ∈ x.looksAt ops → s1.env t = s.env t := fun he t ht => he t (fun e => a3 t e ht)
  by_cases hq : quietOp imm x.op = true
  · rw [pone_quiet hq] at h
    obtain ⟨c, v, hd, hc, hdst, h⟩ := h
    rw [pone_alloc ho] at h ⊢
    rw [hwo (f := id) mild_id (fun t ht => by rw [put_env_ne fun k hk e => a1 k hk (e ▸ ht)]; simp)] at h
    cases hw : pwant ops s o with
    | none => rw [hw] at h; exact h
    | some b =>
      rw [hw] at h
      cases b with
      | true =>
        simp only [] at h ⊢
        cases hod : o.dst with
        | none => rw [hod] at h; exact h
        | some d =>
          rw [hod] at h
          cases hz : zeroP P t with
          | none => rw [hz] at h; exact h
          | some z =>
            rw [hz] at h
            simp only [] at h ⊢
            obtain ⟨h1, h2, h3⟩ := h
            have hn : s.loc d = none := by cases hxd : x.dst <;> rw [hxd] at h1 <;> exact h1
            refine ⟨hn, h2, ?_⟩
            rw [pone_quiet hq]
            refine ⟨c, v, pdet_more hq (hxa fun t ht => upd_ne _ _ fun e => ht (by rw [hod, e])) (fun d' cells hc' => ?_) hd, hc, hdst, ?_⟩
            · show upd s.loc d (some z) d' = some cells
              rw [upd_ne _ _ (fun e => by subst e; rw [hn] at hc'; cases hc')]; exact hc'
            · cases hxd : x.dst with
              | none => rw [hxd] at h3; exact h3
              | some k =>
                rw [hxd] at h3
                have hkd : k ≠ d := fun e => a2 k hxd (by rw [hod, e])
                have : upd (upd s.env k (some v)) d (some (.loc d 0)) = upd (upd s.env d (some (.loc d 0))) k (some v) := upd_comm _ _ _ hkd
                simp only [PS.put] at h3 ⊢
                rw [this] at h3; exact h3
      | false =>
        simp only [] at h ⊢
        refine ⟨h.1, ?_⟩
        rw [pone_quiet hq]
        refine ⟨c, v, pdet_more hq (hxa fun t ht => put_env_ne fun k hk e => ht (by rw [hk, e])) (fun d' cells hc' => by cases o.dst <;> exact hc') hd, hc, hdst, ?_⟩
        rw [← put_put a2]; exact h.2
  · have hcall : callOp x.op = true := by simpa [hq] using hx
    obtain ⟨cc, hop⟩ : ∃ cc, goCall x.op = some cc := Option.isSome_iff_exists.1 hcall
    -- the state behind o, and what it is to x
    have key : ∀ (s1 : PS) (G : PS → PS), (∀ t, o.dst ≠ some t → s1.env t = s.env t) → s1.gl = s.gl → (∀ (gl' : Nat → Int × Int) (r : RV), G (({ s with gl := gl' } : PS).answer x.dst r) = ({ s1 with gl := gl' } : PS).answer x.dst r) → G (s.put x.dst .undef) = s1.put x.dst .undef →
        pone P imm nt ops x s (fun s' => K (G s')) → pone P imm nt ops x s1 K := by
      intro s1 G he hgl hans hput hk
      have hla : LikeAll ops id x s s1 := fun t ht => by rw [hxa he t ht]; simp
      unfold pone at hk ⊢
      rw [pwant_like (f := id) mild_id hla]
      cases hw : pwant ops s x with
      | none => rw [hw] at hk; exact hk
      | some b =>
        rw [hw] at hk
        cases b with
        | false => simp only [] at hk ⊢; exact ⟨hk.1, hput ▸ hk.2⟩
        | true =>
          simp only [pop1_call hop] at hk ⊢
          have hpa : pcallOf P s1.env cc = pcallOf P s.env cc := pcallOf_congr fun t ht => hxa he t (List.mem_append_left _ (List.mem_filterMap.2 ⟨.tmp t, by rw [goCall_eq hop]; simpa using ht, rfl⟩))
          rw [hpa, hgl]
          cases hp : pcallOf P s.env cc with
          | none => rw [hp] at hk; exact hk
          | some fl =>
            obtain ⟨fn, l⟩ := fl
            rw [hp] at hk
            simp only [] at hk ⊢
            exact ⟨hk.1, hk.2.1, hk.2.2.mono fun r gl' h' => hans gl' r ▸ h'⟩
    -- what x leaves reads alike for o
    have hafter : pone P imm nt ops x s fun s' => (pwant ops s' o = pwant ops s o ∧ s'.loc = s.loc) ∧ pone P imm nt ops o s' K := by
      unfold pone at h ⊢
      cases hw : pwant ops s x with
      | none => rw [hw] at h; exact h
      | some b =>
        rw [hw] at h
        cases b with
        | false =>
          simp only [] at h ⊢
          exact ⟨h.1, ⟨hwo (f := id) mild_id (fun t ht => by rw [put_env_ne fun k hk e => a1 k hk (e ▸ ht)]; simp), by cases x.dst <;> rfl⟩, h.2⟩
        | true =>
          simp only [pop1_call hop] at h ⊢
          cases hp : pcallOf P s.env cc with
          | none => rw [hp] at h; exact h
          | some fl =>
            obtain ⟨fn, l⟩ := fl
            rw [hp] at h
            simp only [] at h ⊢
            refine ⟨h.1, h.2.1, h.2.2.mono fun r gl' h' => ⟨?_, h'⟩⟩
            obtain ⟨f, hf, he, _, hloc⟩ := answer_put (s := { s with gl := gl' }) (d := none) (e := x.dst) (v := .undef) (r := r) (by simp)
            exact ⟨hwo hf fun t ht => he t fun e => a1 t e ht, hloc⟩
    rw [pone_alloc ho]
    unfold Ready at hr
    cases hw : pwant ops s o with
    | none => rw [hw] at hr; exact hr
    | some b =>
      rw [hw] at hr
      cases b with
      | true =>
        simp only [] at hr ⊢
        cases hod : o.dst with
        | none => rw [hod] at hr; exact hr
        | some d =>
          rw [hod] at hr
          cases hz : zeroP P t with
          | none => rw [hz] at hr; exact hr
          | some z =>
            rw [hz] at hr
            simp only [] at hr ⊢
            refine ⟨hr.1, hr.2, key _ (fun s' => { s' with loc := upd s'.loc d (some z), env := upd s'.env d (some (.loc d 0)) }) (fun t ht => upd_ne _ _ fun e => ht (by rw [hod, e])) rfl ?_ ?_ ?_⟩
            · intro gl' r
              cases hxd : x.dst with
              | none => rfl
              | some j =>
                have hjd : j ≠ d := fun e => a2 j hxd (by rw [hod, e])
                cases r with
                | pv p => simp only [PS.answer]; rw [upd_comm _ _ _ hjd]
                | newm c e => simp only [PS.answer]; rw [upd_comm _ _ _ hjd]
                | fresh xs => simp only [PS.answer, dem_upd, SV.demote]; rw [upd_comm _ _ _ hjd]
                | tup vs => simp only [PS.answer, dem_upd, SV.demote]; rw [upd_comm _ _ _ hjd]
            · cases hxd : x.dst with
              | none => rfl
              | some j =>
                have hjd : j ≠ d := fun e => a2 j hxd (by rw [hod, e])
                simp only [PS.put]; rw [upd_comm _ _ _ hjd]
            · refine pone_mono hafter fun s' hs' => ?_
              have h2 := (pone_alloc ho).1 hs'.2
              rw [hs'.1.1, hw] at h2
              simp only [hod, hz] at h2
              exact h2.2.2
      | false =>
        simp only [] at hr ⊢
        refine ⟨hr, key _ (fun s' => s'.put o.dst .undef) (fun t ht => put_env_ne fun k hk e => ht (by rw [hk, e])) (by cases o.dst <;> rfl) ?_ ?_ ?_⟩
        · intro gl' r
          cases hod : o.dst with
          | none => rfl
          | some d =>
            cases hxd : x.dst with
            | none => rfl
            | some j =>
              have hjd : j ≠ d := fun e => a2 j hxd (by rw [hod, e])
              cases r with
              | pv p => simp only [PS.answer, PS.put]; rw [upd_comm _ _ _ hjd]
              | newm c e => simp only [PS.answer, PS.put]; rw [upd_comm _ _ _ hjd]
              | fresh xs => simp only [PS.answer, PS.put, dem_upd, SV.demote]; rw [upd_comm _ _ _ hjd]
              | tup vs => simp only [PS.answer, PS.put, dem_upd, SV.demote]; rw [upd_comm _ _ _ hjd]
        · exact put_put a2
        · refine pone_mono hafter fun s' hs' => ?_
          have h2 := (pone_alloc ho).1 hs'.2
          rw [hs'.1.1, hw] at h2
          exact h2.2

/-- What a load, or a call, leaves reads alike for a box that is made. -/
theorem ready_after {o x : Oper} {t : TypeId} (hx : (quietOp imm x.op || callOp x.op) = true) (hap : x.apart ops o = true) {K : PS → Prop} (h : pone P imm nt ops x s K) : pone P imm nt ops x s fun s' => K s' ∧ (Ready P nt ops t o s' ↔ Ready P nt ops t o s) := by
  obtain ⟨a1, a2, a3⟩ := Oper.apart_spec hap
  have same : ∀ {s' : PS}, pwant ops s' o = pwant ops s o → s'.loc = s.loc → (Ready P nt ops t o s' ↔ Ready P nt ops t o s) := fun h1 h2 => by unfold Ready; rw [h1, h2]
  have hput : ∀ v, Ready P nt ops t o (s.put x.dst v) ↔ Ready P nt ops t o s := fun v => same (pwant_like (f := id) mild_id fun t ht => by rw [put_env_ne fun k hk e => a1 k hk (e ▸ ht)]; simp) (by cases x.dst <;> rfl)
  by_cases hq : quietOp imm x.op = true
  · rw [pone_quiet hq] at h ⊢
    obtain ⟨c, v, hd, hc, hdst, h⟩ := h
    exact ⟨c, v, hd, hc, hdst, h, hput v⟩
  · have hcall : callOp x.op = true := by simpa [hq] using hx
    obtain ⟨cc, hop⟩ : ∃ cc, goCall x.op = some cc := Option.isSome_iff_exists.1 hcall
    unfold pone at h ⊢
    cases hw : pwant ops s x with
    | none => rw [hw] at h; exact h
    | some b =>
      rw [hw] at h
      cases b with
      | false => simp only [] at h ⊢; exact ⟨h.1, h.2, hput _⟩
      | true =>
        simp only [pop1_call hop] at h ⊢
        cases hp : pcallOf P s.env cc with
        | none => rw [hp] at h; exact h
        | some fl =>
          obtain ⟨fn, l⟩ := fl
          rw [hp] at h
          simp only [] at h ⊢
          refine ⟨h.1, h.2.1, h.2.2.mono fun r gl' h' => ⟨h', ?_⟩⟩
          obtain ⟨f, hf, he, _, hloc⟩ := answer_put (s := { s with gl := gl' }) (d := none) (e := x.dst) (v := .undef) (r := r) (by simp)
          exact same (pwant_like hf fun t ht => he t fun e => a1 t e ht) hloc

theorem ready_now {F : Fr} {o : Oper} {t : TypeId} (ho : o.op = .alloc t) {l2 : List Oper} {K : PS → Prop} : ∀ (l1 : List Oper) {s : PS} {g : Gh} {a : Act} {w : World}, Inv F g s a w → (∀ x ∈ l1, x.apart ops o = true ∧ (quietOp imm x.op || callOp x.op) = true) →
    pops P imm F.nt ops (l1 ++ o :: l2) s K → Ready P F.nt ops t o s
  | [], s, g, a, w, _, _, h => by
    rw [List.nil_append, pops_cons, pone_alloc ho] at h
    unfold Ready
    cases hw : pwant ops s o with
    | none => rw [hw] at h; exact h
    | some b =>
      rw [hw] at h
      cases b with
      | false => exact h.1
      | true =>
        simp only [] at h ⊢
        cases hod : o.dst with
        | none => rw [hod] at h; exact h
        | some d =>
          rw [hod] at h
          cases hz : zeroP P t with
          | none => rw [hz] at h; exact h
          | some z => rw [hz] at h; exact ⟨h.1, h.2.1⟩
  | x :: l1, s, g, a, w, hi, hf, h => by
    rw [List.cons_append, pops_cons] at h
    have hx := hf x (by simp)
    obtain ⟨s', g', a', w', hi', hk, hr⟩ := pone_live hi (ready_after (t := t) hx.2 hx.1 h)
    exact hr.1 (ready_now ho l1 hi' (fun y hy => hf y (by simp [hy])) hk)

theorem pops_alloc {o : Oper} {t : TypeId} (ho : o.op = .alloc t) {l2 : List Oper} {K : PS → Prop} : ∀ (l1 : List Oper) {s : PS}, Ready P nt ops t o s → (∀ x ∈ l1, x.apart ops o = true ∧ (quietOp imm x.op || callOp x.op) = true) →
    pops P imm nt ops (l1 ++ o :: l2) s K → pone P imm nt ops o s fun s' => pops P imm nt ops (l1 ++ l2) s' K
  | [], s, _, _, h => h
  | x :: l1, s, hr, hf, h => by
    rw [List.cons_append, pops_cons] at h
    have hx := hf x (by simp)
    exact alloc_ahead ho hr hx.2 hx.1 (pone_mono (ready_after (t := t) hx.2 hx.1 h) fun s' hk => pops_alloc ho l1 (hk.2.2 hr) (fun y hy => hf y (by simp [hy])) hk.1)

/-- Whose turn has come. -/
theorem pops_pick {F : Fr} {o : Oper} {l1 l2 : List Oper} {K : PS → Prop} {g : Gh} {a : Act} {w : World} (h : Inv F g s a w) (hf : ∀ x ∈ l1, freeOps imm ops x o = true) (hp : pops P imm F.nt ops (l1 ++ o :: l2) s K) :
    pone P imm F.nt ops o s fun s' => pops P imm F.nt ops (l1 ++ l2) s' K := by
  by_cases hall : allocOp o.op = true
  · obtain ⟨t, ho⟩ : ∃ t, o.op = .alloc t := by
      cases hop : o.op <;> rw [hop] at hall <;> simp only [allocOp, Bool.false_eq_true] at hall
      exact ⟨_, rfl⟩
    have hf' : ∀ x ∈ l1, x.apart ops o = true ∧ (quietOp imm x.op || callOp x.op) = true := fun x hx => by
     have := hf x hx
     simp only [freeOps, freeOld, Bool.or_eq_true, Bool.and_eq_true] at this
     have hqo : ¬ quietOp imm o.op = true := by rw [ho]; simp [quietOp]
     rcases this with h1 | h1
     · exact ⟨h1.1.1.1, by rw [Bool.or_eq_true]; exact .inl (h1.1.1.2.resolve_right hqo)⟩
     · exact ⟨h1.1.1, by rw [Bool.or_eq_true]; exact h1.1.2⟩
    exact pops_alloc ho l1 (ready_now ho l1 h hf' hp) hf' hp
  replace hf : ∀ x ∈ l1, freeOld imm ops x o = true := fun x hx => by
    have := hf x hx
    simp only [freeOps, Bool.or_eq_true, Bool.and_eq_true] at this
    exact this.resolve_right fun h => hall h.2
  by_cases hq : quietOp imm o.op = true
  · obtain ⟨c, v, hd, hc, hdst⟩ := pops_now hq l1 h hf hp
    rw [pone_quiet hq]
    exact ⟨c, v, hd, hc, hdst, pops_quiet hq l1 hf hd hp⟩
  · refine pops_loud l1 (fun x hx => ⟨?_, hf x hx⟩) hp
    have := hf x hx
    simp only [freeOld, Bool.and_eq_true, Bool.or_eq_true] at this
    rcases this.1.1.2 with h1 | h1
    · exact h1
    · exact absurd h1 hq

end
end Go.Proofs.YtbekdlgkoleblaaDoor
