/- RankPlays: the acts; what stays true of the trees. -/
import Derived.Test.YtbekdlgkoleblaaDoorL5a
namespace Go.Proofs.YtbekdlgkoleblaaDoor
set_option linter.unusedSimpArgs false
set_option linter.unusedVariables false

structure Act5 where
  kind : Nat
  a : Nat
  b : Nat
  x : El
def Act5.cells (c : Act5) : List PV := [.int .u8 c.kind, .int .u8 c.a, .int .u8 c.b, .int .i64 c.x.1, .int .i64 c.x.2]
def Act5.ok (c : Act5) : Prop := c.kind < 256 ∧ c.a < 256 ∧ c.b < 256 ∧ inE c.x
theorem wide5 (l : List Act5) : Wide 5 (l.map Act5.cells) := by
  intro x hx
  obtain ⟨a, _, rfl⟩ := List.mem_map.1 hx
  rfl

def oRk : Option RT → Int | none => 0 | some t => t.rank
def oX : Option RT → El | none => (0, 0) | some t => t.x
def oSz : Option RT → Nat | none => 0 | some t => t.sz
def oRank : Option RT → Int | none => -1 | some t => t.rank
def oAll : Option RT → List El | none => [] | some t => t.all
theorem oC_eq (t : Option RT) : oC t = [.int .i64 (oRk t), .int .i64 (oX t).1, .int .i64 (oX t).2, .list ((oBeside t).map eC), .list ((oKids t).map RT.rc), .int .i64 (oSz t : Int)] := by
  cases t with
  | none => rfl
  | some t => exact (rc_eq t).trans (by rw [rcL_map]; rfl)
theorem oC_len (t : Option RT) : (oC t).length = 6 := by rw [oC_eq]; rfl
theorem wideO (l : List (Option RT)) : Wide 6 (l.map oC) := by
  intro x hx
  obtain ⟨a, _, rfl⟩ := List.mem_map.1 hx
  exact oC_len a
theorem wideOP (l : List (Option RT)) : Wide 1 (l.map fun t => [oP t]) := by
  intro x hx
  obtain ⟨a, _, rfl⟩ := List.mem_map.1 hx
  rfl
@[simp 3000] theorem oP_cells (t : Option RT) : PV.cells (oP t) = [oP t] := by
  cases t with
  | none => rfl
  | some t => simp only [oP, pt_eq, PV.cells]
theorem oSz_some (t : Option RT) : t.isSome = decide (0 < oSz t) := by
  cases t with
  | none => rfl
  | some t =>
    have h : 0 < t.sz := by have := sz_eq t; omega
    show true = decide (0 < t.sz)
    rw [decide_eq_true h]

theorem cRoot (t : Option RT) (gl : Nat → Int × Int) : PCalls Tryd.prog 12 [.pv (oP t)] gl fun r gl' => r = .tup [.pv (.agg [.int .i64 (oX t).1, .int .i64 (oX t).2]), .pv (.bool (decide (0 < oSz t)))] ∧ gl' = gl := by
  have := rRoot_ok t gl
  rw [oSz_some] at this
  cases t <;> exact this
theorem cRank (t : Option RT) (gl : Nat → Int × Int) : PCalls Tryd.prog 14 [.pv (oP t)] gl fun r gl' => r = .pv (.int .i64 (oRank t)) ∧ gl' = gl := by
  have := rRank_ok t gl
  cases t <;> exact this
theorem cRefRank (t : Option RT) (gl : Nat → Int × Int) : PCalls Tryd.prog 28 [.pv (.agg (oC t))] gl fun r gl' => r = .pv (.int .i64 (oRank t)) ∧ gl' = gl := by
  have := refRank_ok t gl
  cases t <;> exact this
theorem cSize (t : Option RT) (gl : Nat → Int × Int) : PCalls Tryd.prog 16 [.pv (oP t)] gl fun r gl' => r = .pv (.int .i64 (oSz t : Int)) ∧ gl' = gl := by
  have := rSize_ok t gl
  cases t <;> exact this
theorem cAll (t : Option RT) (h : ∀ u, t = some u → u.sz ≤ 1000000) (gl : Nat → Int × Int) : PCalls Tryd.prog 18 [.pv (oP t)] gl fun r gl' => r = .fresh ((oAll t).map eC) ∧ gl' = gl := by
  have := rAll_ok t h gl
  cases t <;> exact this
theorem cRefAll (t : Option RT) (h : ∀ u, t = some u → u.sz ≤ 1000000) (gl : Nat → Int × Int) : PCalls Tryd.prog 30 [.pv (.agg (oC t))] gl fun r gl' => r = .fresh ((oAll t).map eC) ∧ gl' = gl := by
  have := refAll_ok t h gl
  cases t <;> exact this

/-! ### Things of trees that are linked -/
theorem link_perm (a b : RT) : (RT.link a b).all.Perm (a.all ++ b.all) := by
  unfold RT.link
  split
  · have e : (RT.node (b.rank + 1) b.x b.beside (a :: b.kids)).all = (b.x :: b.beside) ++ (a.all ++ RT.allL b.kids) := by simp [RT.all, RT.allL]
    have e2 : b.all = (b.x :: b.beside) ++ RT.allL b.kids := by rw [all_node]; simp
    rw [e, e2]
    exact List.perm_append_comm_assoc _ _ _
  · have e : (RT.node (a.rank + 1) a.x a.beside (b :: a.kids)).all = (a.x :: a.beside) ++ (b.all ++ RT.allL a.kids) := by simp [RT.all, RT.allL]
    have e2 : a.all = (a.x :: a.beside) ++ RT.allL a.kids := by rw [all_node]; simp
    rw [e, e2, List.append_assoc]
    exact List.Perm.append_left _ List.perm_append_comm
theorem skew_perm (x : El) (t : RT) : (RT.skew x t).all.Perm (x :: t.all) := by
  unfold RT.skew
  rw [all_node t]
  split
  · show (t.x :: ((x :: t.beside) ++ RT.allL t.kids)).Perm (x :: t.x :: (t.beside ++ RT.allL t.kids))
    exact List.Perm.swap _ _ _
  · show (x :: ((t.x :: t.beside) ++ RT.allL t.kids)).Perm (x :: t.x :: (t.beside ++ RT.allL t.kids))
    exact .refl _
theorem oSkew_eq (x : El) (a b : Option RT) : oSkew x a b = match (oLink a b).1 with
    | none => (RT.leaf x, 1)
    | some t => (RT.skew x t, (oLink a b).2 + 2) := by
  unfold oSkew
  rcases oLink a b with ⟨o, n⟩
  cases o <;> rfl
theorem oLink_sz (a b : Option RT) : oSz (oLink a b).1 = oSz a + oSz b := by
  cases a <;> cases b <;> simp [oLink, oSz, link_sz]
theorem oSkew_sz (x : El) (a b : Option RT) : (oSkew x a b).1.sz = oSz a + oSz b + 1 := by
  have := oLink_sz a b
  rw [oSkew_eq]
  split
  · rename_i h
    rw [h] at this
    have h0 : oSz none = 0 := rfl
    have h1 : (RT.leaf x).sz = 1 := by simp [RT.leaf, RT.sz, RT.szL]
    show (RT.leaf x).sz = _
    omega
  · rename_i t h
    rw [h] at this
    have h0 : oSz (some t) = t.sz := rfl
    show (RT.skew x t).sz = _
    rw [skew_sz]
    omega
theorem oLink_all (a b : Option RT) : (oAll (oLink a b).1).Perm (oAll a ++ oAll b) := by
  cases a <;> cases b <;> simp [oLink, oAll, link_perm]
theorem oSkew_all (x : El) (a b : Option RT) : (oSkew x a b).1.all.Perm (x :: (oAll a ++ oAll b)) := by
  have := oLink_all a b
  rw [oSkew_eq]
  split
  · rename_i h
    rw [h] at this
    have h2 : oAll a ++ oAll b = [] := List.nil_perm.1 this
    rw [h2]
    simp [RT.leaf, RT.all, RT.allL]
  · rename_i t h
    rw [h] at this
    exact (skew_perm x t).trans (this.cons _)
theorem link_rank (a b : RT) : (RT.link a b).rank = (if ltI b.x.1 b.x.2 a.x.1 a.x.2 = true then b.rank else a.rank) + 1 := by
  unfold RT.link; split <;> rfl
theorem skew_rank (x : El) (t : RT) : (RT.skew x t).rank = t.rank := by
  unfold RT.skew; split <;> rfl

/-! ### What stays true -/
structure Sm (k : Nat) (t : Option RT) : Prop where
  len : oSz t ≤ 201
  rk : ∀ u, t = some u → 0 ≤ u.rank ∧ u.rank ≤ k
  ok : ∀ y ∈ oAll t, inE y
theorem Sm.none (k : Nat) : Sm k none := ⟨by simp [oSz], (by simp), (by simp [oAll])⟩
theorem Sm.mono {k k' : Nat} {t : Option RT} (h : Sm k t) (hk : k ≤ k') : Sm k' t := ⟨h.len, fun u hu => by have := h.rk u hu; omega, h.ok⟩
theorem Sm.leaf (k : Nat) (x : El) (hx : inE x) : Sm k (some (RT.leaf x)) :=
  ⟨by simp [oSz, RT.leaf, RT.sz, RT.szL], by rintro u ⟨rfl⟩; simp [RT.leaf, RT.rank], by simp [oAll, RT.leaf, RT.all, RT.allL]; exact hx⟩
theorem Sm.link {k : Nat} {a b : Option RT} (ha : Sm k a) (hb : Sm k b) (h : oSz a + oSz b ≤ 200) : Sm (k + 1) (oLink a b).1 := by
  refine ⟨by rw [oLink_sz]; omega, fun u hu => ?_, fun y hy => ?_⟩
  · cases a with
    | none => cases b with
      | none => simp [oLink] at hu
      | some b => simp [oLink] at hu; subst hu; have := hb.rk b rfl; omega
    | some a => cases b with
      | none => simp [oLink] at hu; subst hu; have := ha.rk a rfl; omega
      | some b =>
        simp [oLink] at hu; subst hu
        have h1 := ha.rk a rfl
        have h2 := hb.rk b rfl
        rw [link_rank]
        split <;> omega
  · rcases List.mem_append.1 ((oLink_all a b).subset hy) with hy | hy
    · exact ha.ok y hy
    · exact hb.ok y hy
theorem Sm.skew {k : Nat} {a b : Option RT} (x : El) (hx : inE x) (ha : Sm k a) (hb : Sm k b) (h : oSz a + oSz b ≤ 200) : Sm (k + 1) (some (oSkew x a b).1) := by
  refine ⟨by show (oSkew x a b).1.sz ≤ 201; rw [oSkew_sz]; omega, fun u hu => ?_, fun y hy => ?_⟩
  · injection hu with hu
    subst hu
    have hl := (ha.link hb h).rk
    rw [oSkew_eq]
    split
    · simp [RT.leaf, RT.rank]; omega
    · rename_i t ht
      rw [skew_rank]; exact hl t ht
  · rcases List.mem_cons.1 ((oSkew_all x a b).subset hy) with rfl | hy
    · exact hx
    · rcases List.mem_append.1 hy with hy | hy
      · exact ha.ok y hy
      · exact hb.ok y hy
theorem Sm.bound {k : Nat} {t : Option RT} (h : Sm k t) (hk : k ≤ 1000) : ∀ u, t = some u → u.sz ≤ 100000 ∧ -1000000 ≤ u.rank ∧ u.rank ≤ 1000000 := by
  rintro u rfl
  have h1 := h.len
  have h2 := h.rk u rfl
  simp only [oSz] at h1
  omega
theorem Sm.size {k : Nat} {t : Option RT} (h : Sm k t) : ∀ u, t = some u → u.sz ≤ 1000000 := by
  rintro u rfl
  have h1 := h.len
  simp only [oSz] at h1
  omega
theorem Sm.fine {k : Nat} {t : Option RT} (h : Sm k t) : ∀ u, t = some u → u.sz ≤ 1000000 ∧ u.ok := by
  rintro u rfl
  exact ⟨h.size u rfl, h.ok⟩

/-! ### What is counted -/
theorem link_count (k : Nat) (a b : Option RT) (gl : Nat → Int × Int) : ((linkTick (some k) a b gl) k).1 + ((linkTick (some k) a b gl) k).2 = (gl k).1 + (gl k).2 + ((oLink a b).2 : Nat) := by
  cases a <;> cases b <;> simp [linkTick, oLink, tick]
  omega
theorem skew_count (k : Nat) (x : El) (a b : Option RT) (gl : Nat → Int × Int) : ((skewTick (some k) a b gl) k).1 + ((skewTick (some k) a b gl) k).2 = (gl k).1 + (gl k).2 + ((oSkew x a b).2 : Nat) := by
  rw [oSkew_eq]
  cases a <;> cases b <;> simp [skewTick, linkTick, oLink, tick] <;> omega

/-! ### A region without its edges -/
section
variable {P : Program} {imm : TypeId → Bool} {nt : Nat}
def bare (o : Oper) : Oper := { o with after := #[] }
theorem pwant_bare (ops : Array Oper) (s : PS) (o : Oper) : pwant (ops.map bare) s (bare o) = pwant ops s o := by
  unfold pwant
  show (match o.guard with
    | none => some true
    | some (j, want) => match (((ops.map bare)[j]?).bind (·.dst)).map s.env with
      | some (some (.pv (.bool b))) => some (b == want)
      | some (some .undef) => some false
      | _ => none) = _
  cases o.guard with
  | none => rfl
  | some q =>
    obtain ⟨j, want⟩ := q
    have e : ((ops.map bare)[j]?).bind (·.dst) = (ops[j]?).bind (·.dst) := by
      rw [Array.getElem?_map]
      cases ops[j]? <;> rfl
    simp only [e]
    rfl
theorem pop1_bare (s : PS) (o : Oper) (K : PS → Prop) : pop1 P imm nt s (bare o) K = pop1 P imm nt s o K := rfl
theorem pone_bare (ops : Array Oper) (o : Oper) (s : PS) (K : PS → Prop) : pone P imm nt (ops.map bare) (bare o) s K = pone P imm nt ops o s K := by
  unfold pone
  rw [pwant_bare]
  cases pwant ops s o with
  | none => rfl
  | some b => cases b <;> rfl
theorem pops_bare (ops : Array Oper) {K : PS → Prop} : ∀ (l : List Oper) (s : PS), pops P imm nt (ops.map bare) (l.map bare) s K = pops P imm nt ops l s K
  | [], s => rfl
  | o :: l, s => by
    show pone P imm nt (ops.map bare) (bare o) s (fun s' => pops P imm nt (ops.map bare) (l.map bare) s' K) = pone P imm nt ops o s fun s' => pops P imm nt ops l s' K
    rw [pone_bare]
    congr 1
    funext s'
    exact pops_bare ops l s'
/-- A region is walked without its edges. -/
theorem pops_of_bare {ops ops' : Array Oper} (he : ops.map bare = ops') {s : PS} {K : PS → Prop} (h : pops P imm nt ops' ops'.toList s K) : pops P imm nt ops ops.toList s K := by
  subst he
  rw [← pops_bare ops ops.toList s]
  rw [Array.toList_map] at h
  exact h
end
end Go.Proofs.YtbekdlgkoleblaaDoor
