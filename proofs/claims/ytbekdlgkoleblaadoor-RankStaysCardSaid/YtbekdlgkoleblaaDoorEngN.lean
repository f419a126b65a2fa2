/- Regions that draw their order: two operations that may go either way do. -/
import Derived.Test.YtbekdlgkoleblaaDoorEngL
namespace Go.Proofs.YtbekdlgkoleblaaDoor

/-- A way to read slots that leaves all alone but whose own a row is. -/
structure Mild (f : SV → SV) : Prop where
  undef : f .undef = .undef
  pv : ∀ p, f (.pv p) = .pv p
  loc : ∀ d o, f (.loc d o) = .loc d o
  mtr : ∀ k o, f (.mtr k o) = .mtr k o
  full : ∀ xs, f (.full xs) = .full xs
  own : ∀ k xs, f (.own k xs) = .own k xs ∨ f (.own k xs) = .pv (.list xs)
  tup : ∀ vs, f (.tup vs) = .tup (vs.map f)
  lrow : ∀ d n, f (.lrow d n) = .lrow d n

theorem mild_id : Mild id := ⟨rfl, fun _ => rfl, fun _ _ => rfl, fun _ _ => rfl, fun _ => rfl, fun _ _ => .inl rfl, fun vs => by simp, fun _ _ => rfl⟩
theorem demoteAll_map (k : Nat) : ∀ vs : List SV, SV.demoteAll k vs = vs.map (SV.demote k)
  | [] => rfl
  | v :: rest => by simp [SV.demoteAll, demoteAll_map k rest]
theorem mild_demote (k : Nat) : Mild (SV.demote k) :=
  ⟨by simp [SV.demote], fun _ => by simp [SV.demote], fun _ _ => by simp [SV.demote], fun _ _ => by simp [SV.demote], fun _ => by simp [SV.demote], fun j xs => by simp only [SV.demote]; split <;> simp, fun vs => by simp only [SV.demote, demoteAll_map], fun _ _ => by simp [SV.demote]⟩

section
variable {f : SV → SV} {P : Program} {imm : TypeId → Bool} {s s2 : PS} {o : Oper} {nt : Nat} {ops : Array Oper}

theorem Mild.pv? (hf : Mild f) (v : SV) : (f v).pv? = v.pv? := by
  cases v with
  | undef => rw [hf.undef]
  | pv p => rw [hf.pv]
  | loc d o => rw [hf.loc]
  | mtr k o => rw [hf.mtr]
  | full xs => rw [hf.full]
  | own k xs => rcases hf.own k xs with e | e <;> rw [e] <;> rfl
  | tup vs => rw [hf.tup]; rfl
  | lrow d n => rw [hf.lrow]

theorem Mild.const (hf : Mild f) (v : Value) : (constSV v).map f = constSV v := by
  unfold constSV
  split <;> simp [hf.pv, hf.full]

/-- Where the slots that an operation looks at read so. -/
def Like (f : SV → SV) (o : Op) (s s2 : PS) : Prop := ∀ t, Operand.tmp t ∈ o.operands → s2.env t = (s.env t).map f

theorem like_ev (hf : Mild f) {op : Op} (h : Like f op s s2) {x : Operand} (hx : x ∈ op.operands) : ev s2.env x = (ev s.env x).map f := by
  cases x with
  | tmp t => exact h t hx
  | const v => exact (hf.const v).symm
  | global _ => rfl
  | func _ => rfl

theorem like_evp (hf : Mild f) {op : Op} (h : Like f op s s2) {x : Operand} (hx : x ∈ op.operands) : (ev s2.env x).bind SV.pv? = (ev s.env x).bind SV.pv? := by
  rw [like_ev hf h hx]
  cases ev s.env x with
  | none => rfl
  | some v => exact hf.pv? v

theorem like_parts (hf : Mild f) {op : Op} (h : Like f op s s2) {parts : Array (Nat × Operand)} (hx : ∀ q ∈ parts.toList, q.2 ∈ op.operands) :
    (parts.toList.map fun q => (q.1, (ev s2.env q.2).bind SV.pv?)) = parts.toList.map fun q => (q.1, (ev s.env q.2).bind SV.pv?) :=
  List.map_congr_left fun q hq => by rw [like_evp hf h (hx q hq)]

theorem Mild.intIn (hf : Mild f) (v : Option SV) : intIn (v.map f) = intIn v := by
  rcases v with _ | v
  · rfl
  · cases v <;> simp only [Option.map_some, hf.undef, hf.pv, hf.loc, hf.mtr, hf.full, hf.tup, hf.lrow] <;> try rfl
    rename_i k xs; rcases hf.own k xs with e | e <;> rw [e] <;> rfl
theorem Mild.boolIn (hf : Mild f) (v : Option SV) : boolIn (v.map f) = boolIn v := by
  rcases v with _ | v
  · rfl
  · cases v <;> simp only [Option.map_some, hf.undef, hf.pv, hf.loc, hf.mtr, hf.full, hf.tup, hf.lrow] <;> try rfl
    rename_i k xs; rcases hf.own k xs with e | e <;> rw [e] <;> rfl
theorem Mild.strIn (hf : Mild f) (v : Option SV) : strIn (v.map f) = strIn v := by
  rcases v with _ | v
  · rfl
  · cases v <;> simp only [Option.map_some, hf.undef, hf.pv, hf.loc, hf.mtr, hf.full, hf.tup, hf.lrow] <;> try rfl
    rename_i k xs; rcases hf.own k xs with e | e <;> rw [e] <;> rfl
theorem Mild.aggIn (hf : Mild f) (v : Option SV) : aggIn (v.map f) = aggIn v := by
  rcases v with _ | v
  · rfl
  · cases v <;> simp only [Option.map_some, hf.undef, hf.pv, hf.loc, hf.mtr, hf.full, hf.tup, hf.lrow] <;> try rfl
    rename_i k xs; rcases hf.own k xs with e | e <;> rw [e] <;> rfl
theorem Mild.ptrIn (hf : Mild f) (v : Option SV) : ptrIn (v.map f) = ptrIn v := by
  rcases v with _ | v
  · rfl
  · cases v <;> simp only [Option.map_some, hf.undef, hf.pv, hf.loc, hf.mtr, hf.full, hf.tup, hf.lrow] <;> try rfl
    rename_i k xs; rcases hf.own k xs with e | e <;> rw [e] <;> rfl
theorem Mild.tupIn (hf : Mild f) (v : Option SV) : tupIn (v.map f) = (tupIn v).map (List.map f) := by
  rcases v with _ | v
  · rfl
  · cases v <;> simp only [Option.map_some, hf.undef, hf.pv, hf.loc, hf.mtr, hf.full, hf.tup, hf.lrow] <;> try rfl
    rename_i k xs; rcases hf.own k xs with e | e <;> rw [e] <;> rfl
theorem Mild.lrowIn (hf : Mild f) (v : Option SV) : lrowIn (v.map f) = lrowIn v := by
  rcases v with _ | v
  · rfl
  · cases v <;> simp only [Option.map_some, hf.undef, hf.pv, hf.loc, hf.mtr, hf.full, hf.tup, hf.lrow] <;> try rfl
    rename_i k xs; rcases hf.own k xs with e | e <;> rw [e] <;> rfl
theorem Mild.ptr (hf : Mild f) (p : Ptr) : f p.sv = p.sv := by
  cases p <;> simp only [Ptr.sv, hf.pv, hf.loc, hf.mtr]

theorem map_map3 {α : Type} {x : Option α} {r : α → Prop × SV × Eff} {r' : α → Prop × SV × Eff} (h : ∀ y, r' y = ((r y).1, f (r y).2.1, (r y).2.2)) : x.map r' = (x.map r).map fun q => (q.1, f q.2.1, q.2.2) := by
  cases x with
  | none => rfl
  | some y => simp only [Option.map_some, h]

theorem map_self {m : Option (Prop × SV × Eff)} (h : ∀ c v e, m = some (c, v, e) → f v = v) : m = m.map fun q => (q.1, f q.2.1, q.2.2) := by
  cases m with
  | none => rfl
  | some q => obtain ⟨c, v, e⟩ := q; simp only [Option.map_some, h c v e rfl]

/-- An operation that writes nothing answers alike. -/
theorem quiet_like (hf : Mild f) (hq : quietOp imm o.op = true) (h : Like f o.op s s2) (hl : loadsOp o.op = true → s2.loc = s.loc) :
    pstep P imm s2 o = (pstep P imm s o).map fun q => (q.1, f q.2.1, q.2.2) := by
  cases hop : o.op <;> rw [hop] at hq h hl <;> simp only [quietOp, Bool.false_eq_true] at hq
  case move x =>
    have e := like_ev hf h (x := x) (by simp [Op.operands])
    simp only [pstep, hop, e]; cases ev s.env x <;> rfl
  case assign x =>
    have e := like_ev hf h (x := x) (by simp [Op.operands])
    simp only [pstep, hop, e]; cases ev s.env x <;> rfl
  case pick c x y =>
    have e := like_ev hf h (x := c) (by simp [Op.operands])
    have e1 := like_ev hf h (x := x) (by simp [Op.operands])
    have e2 := like_ev hf h (x := y) (by simp [Op.operands])
    simp only [pstep, hop, e, e1, e2, hf.boolIn]
    cases boolIn (ev s.env c) with
    | none => rfl
    | some b =>
      cases b
      · simp only [Bool.false_eq_true, if_false]; cases ev s.env y <;> rfl
      · simp only [if_true]; cases ev s.env x <;> rfl
  case box t x =>
    have e := like_evp hf h (x := x) (by simp [Op.operands])
    simp only [pstep, hop, e, hq, if_true]
    cases o.dst with
    | none => rfl
    | some d => cases (ev s.env x).bind SV.pv? <;> simp [hf.pv]
  case build t parts =>
    have e := like_parts hf h (parts := parts) (fun q hq => by simp only [Op.operands]; exact List.mem_toArray.2 (List.mem_map.2 ⟨q, hq, rfl⟩))
    simp only [pstep, hop, e]
    split
    · exact map_map3 fun y => by simp [hf.pv]
    · rfl
  case load t x =>
    have e := like_ev hf h (x := x) (by simp [Op.operands])
    have hl' := hl rfl
    simp only [pstep, hop, e, hl', hf.ptrIn]
    split
    · split
      · exact map_map3 fun y => by simp [hf.pv]
      · rfl
    · exact map_map3 fun y => by simp [hf.pv]
    · rfl
  case nilCheck x =>
    have e := like_ev hf h (x := x) (by simp [Op.operands])
    simp only [pstep, hop, e, hf.ptrIn]
    exact map_map3 fun y => by simp [hf.ptr]
  case binOp op t x y t' =>
    have e := like_evp hf h (x := x) (by simp [Op.operands])
    have e1 := like_evp hf h (x := y) (by simp [Op.operands])
    have e2 : ptrIn (ev s2.env x) = ptrIn (ev s.env x) := by rw [like_ev hf h (x := x) (by simp [Op.operands]), hf.ptrIn]
    simp only [pstep, hop, e, e1, e2]
    refine map_self fun c v e hm => ?_
    split at hm
    · obtain ⟨p, rfl⟩ := sliceNil_pv hm; exact hf.pv _
    split at hm
    · obtain ⟨_, _, e⟩ := map3 hm; obtain ⟨_, rfl, _⟩ := some3 (congrArg some e); exact hf.pv _
    · split at hm <;> first | (obtain ⟨_, rfl, _⟩ := some3 hm; exact hf.pv _) | cases hm
    · cases hm
  case unOp op t x =>
    have e := like_ev hf h (x := x) (by simp [Op.operands])
    cases op
    case neg => simp only [pstep, hop, e, hf.intIn]; exact map_map3 fun y => by simp [hf.pv]
    case not => simp only [pstep, hop, e, hf.boolIn]; exact map_map3 fun y => by simp [hf.pv]
    all_goals (simp [pstep, hop])
  case convert src dst x =>
    have e := like_ev hf h (x := x) (by simp [Op.operands])
    have e' := like_evp hf h (x := x) (by simp [Op.operands])
    simp only [pstep, hop]
    rw [e', e, hf.intIn]
    split
    · simp [hf.pv]
    · split
      · exact map_map3 fun y => by simp [hf.pv]
      · rfl
    · rfl
  case slice t x lo hi mx =>
    cases mx with
    | some m => simp [pstep, hop]
    | none =>
      have e := like_evp hf h (x := x) (by simp [Op.operands])
      have e1 : lo.map (fun y => intIn (ev s2.env y)) = lo.map fun y => intIn (ev s.env y) := by
        cases lo with
        | none => rfl
        | some y => simp only [Option.map_some]; rw [like_ev hf h (x := y) (by simp [Op.operands]), hf.intIn]
      have e2 : hi.map (fun y => intIn (ev s2.env y)) = hi.map fun y => intIn (ev s.env y) := by
        cases hi with
        | none => rfl
        | some y => simp only [Option.map_some]; rw [like_ev hf h (x := y) (by cases lo <;> simp [Op.operands]), hf.intIn]
      simp only [pstep, hop, e, e1, e2]
      split <;> simp [hf.pv]
  case fieldAddr t x fi =>
    have e := like_ev hf h (x := x) (by simp [Op.operands])
    simp only [pstep, hop, e, hf.ptrIn]
    split <;> simp [hf.pv, hf.loc, hf.mtr]
  case field t x fi =>
    have e := like_ev hf h (x := x) (by simp [Op.operands])
    simp only [pstep, hop, e, hf.aggIn]
    split
    · exact map_map3 fun y => by simp [hf.pv]
    · rfl
  case indexAddr t x ix =>
    have e := like_evp hf h (x := x) (by simp [Op.operands])
    have e0 := like_ev hf h (x := x) (by simp [Op.operands])
    have e1 := like_ev hf h (x := ix) (by simp [Op.operands])
    simp only [pstep, hop]
    rw [e, e1, e0, hf.intIn, hf.lrowIn]
    split
    · simp [hf.pv]
    · exact map_map3 fun y => by simp [hf.loc]
    · rfl
  case index t x ix =>
    have e := like_ev hf h (x := x) (by simp [Op.operands])
    have e1 := like_ev hf h (x := ix) (by simp [Op.operands])
    simp only [pstep, hop, e, e1, hf.intIn, hf.strIn]
    split <;> simp [hf.pv]
  case makeInterface t x =>
    have e := like_evp hf h (x := x) (by simp [Op.operands])
    simp only [pstep, hop, e]
    split
    · exact map_map3 fun y => by simp [hf.pv]
    · rfl
  case extract x i =>
    have e := like_ev hf h (x := x) (by simp [Op.operands])
    simp only [pstep, hop, e, hf.tupIn]
    cases tupIn (ev s.env x) with
    | none => rfl
    | some vs =>
      simp only [Option.map_some, Option.bind_some, List.getElem?_map]
      cases vs[i]? <;> rfl
  case call c =>
    obtain ⟨callee, args, argTypes⟩ := c
    rcases callee with fv | ⟨r, m⟩ | b
    · simp at hq
    · simp at hq
    have hops : ∀ x ∈ args.toList, x ∈ (Op.call { callee := Callee.builtin b, args, argTypes }).operands := fun x hx => by simp [Op.operands, Call.operands]; simpa using hx
    have e1 : args.toList.map (fun x => (ev s2.env x).bind SV.pv?) = args.toList.map (fun x => (ev s.env x).bind SV.pv?) := List.map_congr_left fun x hx => like_evp hf h (hops x hx)
    have e2 : args.toList.map (fun x => intIn (ev s2.env x)) = args.toList.map fun x => intIn (ev s.env x) := List.map_congr_left fun x hx => by rw [like_ev hf h (hops x hx), hf.intIn]
    cases b <;> first | (exfalso; simp at hq; done) | skip
    case len =>
      have e3 : lrowsIn s2.env args.toList = lrowsIn s.env args.toList := by
        unfold lrowsIn
        split
        · rename_i x hx; rw [like_ev hf h (hops x (by rw [hx]; simp)), hf.lrowIn]
        · rfl
      simp only [pstep, hop]
      rw [e1, e3]
      split
      · simp [hf.pv]
      · simp [hf.pv]
      · exact map_map3 fun y => by simp [hf.pv]
      · rfl
    case max =>
      simp only [pstep, hop, e2]
      split <;> simp [hf.pv]
    case min =>
      simp only [pstep, hop, e2]
      split <;> simp [hf.pv]

end
end Go.Proofs.YtbekdlgkoleblaaDoor
