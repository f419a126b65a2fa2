/- RankStays: the contract. -/
import Derived.Test.YtbekdlgkoleblaaDoorL5s
namespace Go.Proofs.YtbekdlgkoleblaaDoor
set_option linter.unusedSimpArgs false
set_option linter.unusedVariables false

theorem link_kids (a b : RT) (n : Nat) (ha : a.kids.length = n) (hb : b.kids.length = n) : (RT.link a b).kids.length = n + 1 := by
  unfold RT.link; split
  · show (a :: b.kids).length = n + 1; rw [List.length_cons, hb]
  · show (b :: a.kids).length = n + 1; rw [List.length_cons, ha]
theorem skew_kids (x : El) (t : RT) : (RT.skew x t).kids = t.kids := by
  unfold RT.skew; split <;> rfl
theorem skew_beside (x : El) (t : RT) : 0 < (RT.skew x t).beside.length := by
  unfold RT.skew; split <;> simp [RT.beside]
theorem link_rank_eq (a b : RT) (n : Int) (ha : a.rank = n) (hb : b.rank = n) : (RT.link a b).rank = n + 1 := by
  rw [link_rank]; split <;> omega
theorem ints_eC (l : List El) : ∀ x ∈ l.map eC, ∀ p ∈ x, ∃ n, p = PV.int .i64 n := by
  intro x hx p hp
  obtain ⟨y, _, rfl⟩ := List.mem_map.1 hx
  simp only [eC, List.mem_cons, List.not_mem_nil, or_false] at hp
  rcases hp with rfl | rfl
  · exact ⟨_, rfl⟩
  · exact ⟨_, rfl⟩
theorem leaf_sz (x : El) : (RT.leaf x).sz = 1 := by simp [RT.leaf, RT.sz, RT.szL]
theorem leaf_ok (x : El) (h : inE x) : (RT.leaf x).ok := by
  intro y hy
  have : y = x := by simpa [RT.leaf, RT.all, RT.allL] using hy
  subst this; exact h
theorem link_okE (a b : RT) (ha : a.ok) (hb : b.ok) : (RT.link a b).ok := fun y hy =>
  (List.mem_append.1 ((link_perm a b).subset hy)).elim (ha y) (hb y)
theorem skew_okE (x : El) (t : RT) (hx : inE x) (ht : t.ok) : (RT.skew x t).ok := fun y hy => by
  rcases List.mem_cons.1 ((skew_perm x t).subset hy) with rfl | hy
  · exact hx
  · exact ht y hy

set_option maxHeartbeats 4000000 in
theorem stays_some (a0 a1 a2 a3 x : El) (rest : List El) (hn : rest.length ≤ 56) (h0 : inE a0) (h1 : inE a1) (h2 : inE a2) (h3 : inE a3) (hx : inE x) (gl : Nat → Int × Int) :
    PCalls Tryd.prog 7 [.pv (.list ((a0 :: a1 :: a2 :: a3 :: rest).map eC)), .pv (.agg (eC x))] gl fun r _ => r = .pv (.bool true) := by
  have hL : ∀ v u, some (RT.leaf v) = some u → u.sz ≤ 100000 ∧ -1000000 ≤ u.rank ∧ u.rank ≤ 1000000 := by rintro v u ⟨rfl⟩; rw [leaf_sz]; simp [RT.leaf, RT.rank]
  have hT0 : ∀ t : RT, t.sz ≤ 6 → 0 ≤ t.rank → t.rank ≤ 2 → ∀ u, some t = some u → u.sz ≤ 100000 ∧ -1000000 ≤ u.rank ∧ u.rank ≤ 1000000 := by rintro t k1 k2 k3 u ⟨rfl⟩; omega
  have cF : ∀ (v : El) gl, PCalls Tryd.prog 9 [.pv .nilp, .pv (.agg [.int .i64 v.1, .int .i64 v.2])] gl fun r gl' => r = .pv (RT.leaf v).pt ∧ gl' = gl := fun v gl => rLeaf_ok none v gl
  have cLink : ∀ (p q : RT), p.sz ≤ 6 → 0 ≤ p.rank → p.rank ≤ 2 → q.sz ≤ 6 → 0 ≤ q.rank → q.rank ≤ 2 → ∀ gl, PCalls Tryd.prog 11 [.pv .nilp, .pv p.pt, .pv q.pt] gl fun r gl' => r = .pv (RT.link p q).pt ∧ gl' = gl := fun p q k1 k2 k3 k4 k5 k6 gl =>
    rLink_ok none (some p) (some q) (hT0 p k1 k2 k3) (hT0 q k4 k5 k6) gl
  have cSkew : ∀ (p q : RT), p.sz ≤ 6 → 0 ≤ p.rank → p.rank ≤ 2 → q.sz ≤ 6 → 0 ≤ q.rank → q.rank ≤ 2 → ∀ gl, PCalls Tryd.prog 10 [.pv .nilp, .pv (.agg [.int .i64 x.1, .int .i64 x.2]), .pv p.pt, .pv q.pt] gl fun r gl' => r = .pv (RT.skew x (RT.link p q)).pt ∧ gl' = gl := fun p q k1 k2 k3 k4 k5 k6 gl => by
    have h := rSkew_ok none x (some p) (some q) (hT0 p k1 k2 k3) (hT0 q k4 k5 k6) (by rintro u ⟨rfl⟩; rw [link_sz]; omega) gl
    have e : (oSkew x (some p) (some q)).1 = RT.skew x (RT.link p q) := by rw [oSkew_eq]; rfl
    rw [e] at h
    exact h
  have lz : ∀ v, (RT.leaf v).rank = 0 := fun v => rfl
  have lk : ∀ v, (RT.leaf v).kids.length = 0 := fun v => rfl
  -- S
  generalize hS : RT.link (RT.leaf a0) (RT.leaf a1) = S
  have Sz : S.sz = 2 := by rw [← hS, link_sz, leaf_sz, leaf_sz]
  have Sr : S.rank = 1 := by rw [← hS, link_rank_eq _ _ 0 (lz _) (lz _)]; rfl
  have Sk : S.kids.length = 1 := by rw [← hS]; exact link_kids _ _ 0 (lk _) (lk _)
  have So : S.ok := by rw [← hS]; exact link_okE _ _ (leaf_ok _ h0) (leaf_ok _ h1)
  -- T
  generalize hT : RT.skew x (RT.link (RT.leaf a2) (RT.leaf a3)) = T
  have Tz : T.sz = 3 := by rw [← hT, skew_sz, link_sz, leaf_sz, leaf_sz]
  have Tr : T.rank = 1 := by rw [← hT, skew_rank, link_rank_eq _ _ 0 (lz _) (lz _)]; rfl
  have Tk : T.kids.length = 1 := by rw [← hT, skew_kids]; exact link_kids _ _ 0 (lk _) (lk _)
  have To : T.ok := by rw [← hT]; exact skew_okE _ _ hx (link_okE _ _ (leaf_ok _ h2) (leaf_ok _ h3))
  -- U, V
  have Uz : (RT.link S T).sz = 5 := by rw [link_sz, Sz, Tz]
  have Ur : (RT.link S T).rank = 2 := by rw [link_rank_eq _ _ 1 Sr Tr]; rfl
  have Uk : (RT.link S T).kids.length = 2 := link_kids _ _ 1 Sk Tk
  have Uo : (RT.link S T).ok := link_okE _ _ So To
  have Vz : (RT.skew x (RT.link S T)).sz = 6 := by rw [skew_sz, Uz]
  have Vr : (RT.skew x (RT.link S T)).rank = 2 := by rw [skew_rank, Ur]
  have Vb : 0 < (RT.skew x (RT.link S T)).beside.length := skew_beside _ _
  have cS := cLink (RT.leaf a0) (RT.leaf a1) (by rw [leaf_sz]; omega) (by rw [lz]; omega) (by rw [lz]; omega) (by rw [leaf_sz]; omega) (by rw [lz]; omega) (by rw [lz]; omega)
  have cT := cSkew (RT.leaf a2) (RT.leaf a3) (by rw [leaf_sz]; omega) (by rw [lz]; omega) (by rw [lz]; omega) (by rw [leaf_sz]; omega) (by rw [lz]; omega) (by rw [lz]; omega)
  have cU := cLink S T (by omega) (by omega) (by omega) (by omega) (by omega) (by omega)
  have cV := cSkew S T (by omega) (by omega) (by omega) (by omega) (by omega) (by omega)
  rw [hS] at cS
  rw [hT] at cT
  generalize RT.skew x (RT.link S T) = V at *
  generalize RT.link S T = U at *
  have hlb := sz_eq V
  have eA : (oAll (some V)).length = 6 := by rw [← Vz]; exact all_len V
  have eB : oBeside (some V) = V.beside := rfl
  have eK : (oKids (some U)).length = 2 := Uk
  refine stays_core ((a0 :: a1 :: a2 :: a3 :: rest).map eC) a0 a1 a2 a3 x (RT.leaf a0).pt (RT.leaf a1).pt (RT.leaf a2).pt (RT.leaf a3).pt S.pt T.pt U.pt V.pt (oText (some S)) (oText (some T)) (oText (some U)) ((oKids (some U)).map fun k : RT => [k.pt]) ((oAll (some V)).map eC) ((oBeside (some V)).map eC)
    (wide2 _) ⟨by simp, by simp; omega⟩ rfl rfl rfl rfl (cF a0) (cF a1) (cF a2) (cF a3) cS cT cU cV
    (fun gl => rShow_ok (some S) (by rintro u ⟨rfl⟩; exact ⟨by omega, So⟩) gl) (fun gl => rShow_ok (some T) (by rintro u ⟨rfl⟩; exact ⟨by omega, To⟩) gl) (fun gl => rShow_ok (some U) (by rintro u ⟨rfl⟩; exact ⟨by omega, Uo⟩) gl)
    (fun gl => rKids_ok (some U) (by rintro u ⟨rfl⟩; omega) gl) (fun gl => cAll (some V) (by rintro u ⟨rfl⟩; omega) gl) (fun gl => rBeside_ok (some V) (by rintro u ⟨rfl⟩; omega) gl)
    (wideK _) (by rw [List.length_map]; exact eK) (wide2 _) (by rw [List.length_map, eA]; omega) (ints_eC _) (wide2 _) (by rw [List.length_map, eB]; omega) (ints_eC _) ?_ ?_ ?_ ?_ gl
  · intro gl
    have := cSize (some U) gl
    rw [show oSz (some U) = 5 from Uz] at this
    exact this
  · intro gl
    have := cSize (some V) gl
    rw [show oSz (some V) = 6 from Vz] at this
    exact this
  · intro gl
    have := cRank (some U) gl
    rw [show oRank (some U) = 2 from Ur] at this
    exact this
  · intro gl
    have := cRank (some V) gl
    rw [show oRank (some V) = 2 from Vr] at this
    exact this

set_option maxRecDepth 4000 in
set_option maxHeartbeats 4000000 in
theorem stays_out (l : List El) (hm : l.length ≤ maxLen) (x : El) (h : l.length < 4 ∨ 60 < l.length) (gl : Nat → Int × Int) :
    PCalls Tryd.prog 7 [.pv (.list (l.map eC)), .pv (.agg (eC x))] gl fun r _ => r = .pv (.bool true) := by
  refine pcalls_of_pwp noImm Tryd.func7 rfl (by simp) mixed (by kernel_rfl) fun gn => ?_
  simp only [eC]
  simp
  refine (awake_ok gl).mono ?_
  rintro r gl1 rfl
  by_cases h4 : l.length < 4
  · have e4 : decide ((l.length : Int) < 4) = true := decide_eq_true (by omega)
    simp [e4]
  · have e4 : decide ((l.length : Int) < 4) = false := decide_eq_false (by omega)
    have e60 : decide (60 < (l.length : Int)) = true := decide_eq_true (by omega)
    simp [e4, e60]

theorem stays_ok (l : List El) (x : El) (hm : l.length ≤ maxLen) (hl : ∀ y ∈ l, inE y) (hx : inE x) (gl : Nat → Int × Int) :
    PCalls Tryd.prog 7 [.pv (.list (l.map eC)), .pv (.agg (eC x))] gl fun r _ => r = .pv (.bool true) := by
  by_cases h : l.length < 4 ∨ 60 < l.length
  · exact stays_out l hm x h gl
  · match l, hl, h with
    | a0 :: a1 :: a2 :: a3 :: rest, hl, h => exact stays_some a0 a1 a2 a3 x rest (by simp at h; omega) (hl _ (by simp)) (hl _ (by simp)) (hl _ (by simp)) (hl _ (by simp)) hx gl
    | [], _, h => exact absurd (Or.inl (by simp)) h
    | [_], _, h => exact absurd (Or.inl (by simp)) h
    | [_, _], _, h => exact absurd (Or.inl (by simp)) h
    | [_, _, _], _, h => exact absurd (Or.inl (by simp)) h
end Go.Proofs.YtbekdlgkoleblaaDoor
