/- What a heap has, taken out one by one. -/
import Derived.Test.YtgbcjpdhmjikgaaDoorR2
import Derived.Test.YtgbcjpdhmjikgaaDoorN2
import Derived.Test.YtgbcjpdhmjikgaaDoorQ1
namespace Go.Proofs.YtgbcjpdhmjikgaaDoor
set_option linter.unusedVariables false
set_option linter.unusedSimpArgs false

/-- The root; of none zero. -/
def LT.hd : LT → El
  | .nil => (0, 0)
  | .node p i _ _ => (p, i)

theorem min_ok' (t : LT) (m : Option Nat) (gl : Nat → Int × Int) : PCalls Tryd.prog 28 [.pv t.pv, mv m] gl fun r gl' => r = .tup [.pv (eP t.hd.1 t.hd.2), .pv (.bool t.some?)] ∧ gl' = gl :=
  (min_ok t m gl).mono fun r gl' h => by
    obtain ⟨h, e⟩ := h
    subst h; subst e
    cases t <;> exact ⟨rfl, rfl⟩

theorem dr_some (u : LT) (n : Nat) (h : u.some? = true) (hn : 0 < n) : u.dr n = u.hd :: u.pop.1.dr (n - 1) := by
  cases u with
  | nil => cases h
  | node p i l r => obtain ⟨k, rfl⟩ : ∃ k, n = k + 1 := ⟨n - 1, by omega⟩; rfl
theorem dr_none (u : LT) (n : Nat) (h : u.some? = false) : u.dr n = [] := by
  cases u with
  | nil => cases n <;> rfl
  | node p i l r => cases h
theorem pop_sz (u : LT) : u.pop.1.sz = u.sz - 1 := by
  cases u with
  | nil => rfl
  | node p i l r => simp only [LT.pop, meldSz, LT.sz]; omega

set_option maxHeartbeats 4000000 in
set_option maxRecDepth 4000 in
theorem drain_ok (t : LT) (n : Nat) (hn : n ≤ 100000) (ht : t.sz ≤ 100000) (gl : Nat → Int × Int) : PCalls Tryd.prog 18 [.pv t.pv, .pv (.int .i64 n)] gl fun r gl' => r = .fresh ((t.dr n).map eC) ∧ gl' = gl := by
  refine pcalls_of_pwp noImm Tryd.func18 rfl (by simp) mixed (by kernel_rfl) fun gn => ?_
  have w1 : ∀ x : El, Wide 2 [[PV.int IntKind.i64 x.1, PV.int IntKind.i64 x.2]] := fun x y hy => by rw [List.mem_singleton.1 hy]; rfl
  simp [LT.pv]
  refine (min_ok' t none _).use ?_
  simp [eP]
  refine pwp_loopS (α := Nat × LT × List El) (fun s => s.1 ≤ n ∧ s.2.1.sz + s.1 ≤ 100000 + s.1 ∧ s.2.2 ++ s.2.1.dr (n - s.1) = t.dr n ∧ s.2.2.length ≤ s.1) (fun s => [(1, .pv (.int .i64 n)), (2, .loc 2 0), (5, .own 5 (s.2.2.map eC)), (6, .loc 6 0), (7, .pv (.bool s.2.1.some?)), (8, .pv (.int .i64 s.1))]) (fun s => [(2, [s.2.1.pt]), (6, [.int .i64 s.2.1.hd.1, .int .i64 s.2.1.hd.2])]) (fun _ => gl) (fun _ => gn) (fun s => n - s.1) (0, t, []) (by simp; omega) (by simp) ?_
  rintro ⟨k, u, l⟩ ⟨hk, hu, he, hl⟩
  simp only at hk hu he hl
  by_cases hlt : k < n
  · by_cases hs : u.some? = true
    · simp [hlt, hs, wide2, w1]
      refine ⟨⟨by omega, by omega⟩, ?_⟩
      refine (pop_ok none u (by omega) _).use ?_
      simp [LT.pv]
      refine (min_ok' u.pop.1 none _).use ?_
      simp [eP]
      have hp := pop_sz u
      refine ⟨k + 1, u.pop.1, l ++ [u.hd], ⟨hlt, by omega, ?_, by simp; omega⟩, by omega, ?_⟩
      · rw [← he, dr_some u (n - k) hs (by omega), show n - k - 1 = n - (k + 1) from by omega]; simp
      · simp [eC]
        exact ⟨wr _ (by omega) (by omega), rfl⟩
    · have hs' : u.some? = false := by simpa using hs
      simp [hlt, hs']
      rw [← he, dr_none u _ hs']; simp
  · have e : n - k = 0 := by omega
    simp [hlt]
    rw [← he, e]; simp [LT.dr]

theorem ofK_fold (m : Option Nat) : ∀ (xs : List El) (t : LT) (gl : Nat → Int × Int), (xs.foldl (fun (s : LT × (Nat → Int × Int)) x => ((s.1.ins x.1 x.2).1, tick m (s.1.ins x.1 x.2).2 ((s.1.ins x.1 x.2).2 + 1) s.2)) (t, gl)).1 = xs.foldl (fun t x => (t.ins x.1 x.2).1) t
  | [], _, _ => rfl
  | x :: xs, t, gl => ofK_fold m xs _ _
theorem ofK_fst (m : Option Nat) (xs : List El) (gl : Nat → Int × Int) : (ofK m gl xs).1 = ofT xs := ofK_fold m xs .nil gl
theorem ofK_none : ∀ (xs : List El) (t : LT) (gl : Nat → Int × Int), (xs.foldl (fun (s : LT × (Nat → Int × Int)) x => ((s.1.ins x.1 x.2).1, tick none (s.1.ins x.1 x.2).2 ((s.1.ins x.1 x.2).2 + 1) s.2)) (t, gl)).2 = gl
  | [], _, _ => rfl
  | x :: xs, t, gl => ofK_none xs _ _

/-- The contracts as the walks need them: a heap's value laid open. -/
theorem ofN_ok (xs : List El) (hlen : xs.length ≤ 100000) (gl : Nat → Int × Int) : PCalls Tryd.prog 15 [.pv .nilp, .pv (.list (xs.map eC))] gl fun r gl' => r = .pv (.agg [(ofT xs).pt]) ∧ gl' = gl :=
  (of_ok none xs hlen gl).mono fun r gl' ⟨h, e⟩ => by
    rw [ofK_fst] at h
    exact ⟨h, e.trans (ofK_none xs .nil gl)⟩
theorem ofM_ok (m : Option Nat) (xs : List El) (hlen : xs.length ≤ 100000) (gl : Nat → Int × Int) : PCalls Tryd.prog 15 [mv m, .pv (.list (xs.map eC))] gl fun r gl' => r = .pv (.agg [(ofT xs).pt]) ∧ gl' = (ofK m gl xs).2 :=
  (of_ok m xs hlen gl).mono fun r gl' ⟨h, e⟩ => by
    rw [ofK_fst] at h
    exact ⟨h, e⟩
theorem meldM_ok (m : Option Nat) (a b : LT) (h : a.sz + b.sz ≤ 1000000) (gl : Nat → Int × Int) : PCalls Tryd.prog 16 [.pv (.agg [a.pt]), mv m, .pv (.agg [b.pt])] gl fun r gl' => r = .pv (.agg [(LT.meld a b).1.pt]) ∧ gl' = tick m (LT.meld a b).2 (LT.meld a b).2 gl := meld_ok m 1000000 a b gl h (by omega)
theorem meldN_ok (a b : LT) (h : a.sz + b.sz ≤ 1000000) (gl : Nat → Int × Int) : PCalls Tryd.prog 16 [.pv (.agg [a.pt]), .pv .nilp, .pv (.agg [b.pt])] gl fun r gl' => r = .pv (.agg [(LT.meld a b).1.pt]) ∧ gl' = gl := meld_ok none 1000000 a b gl h (by omega)
theorem insM_ok (m : Option Nat) (t : LT) (p i : Int) (h : t.sz < 1000000) (gl : Nat → Int × Int) : PCalls Tryd.prog 24 [.pv (.agg [t.pt]), mv m, .pv (.agg [.int .i64 p, .int .i64 i])] gl fun r gl' => r = .pv (.agg [(t.ins p i).1.pt]) ∧ gl' = tick m (t.ins p i).2 ((t.ins p i).2 + 1) gl := insert_ok m t p i h gl
theorem insN_ok (t : LT) (p i : Int) (h : t.sz < 1000000) (gl : Nat → Int × Int) : PCalls Tryd.prog 24 [.pv (.agg [t.pt]), .pv .nilp, .pv (.agg [.int .i64 p, .int .i64 i])] gl fun r gl' => r = .pv (.agg [(t.ins p i).1.pt]) ∧ gl' = gl := insert_ok none t p i h gl
theorem popM_ok (m : Option Nat) (t : LT) (h : t.sz ≤ 1000000) (gl : Nat → Int × Int) : PCalls Tryd.prog 26 [.pv (.agg [t.pt]), mv m] gl fun r gl' => r = .tup [.pv (.agg [t.pop.1.pt]), .pv (.bool t.some?)] ∧ gl' = tick m t.pop.2 t.pop.2 gl := pop_ok m t h gl
theorem popN_ok (t : LT) (h : t.sz ≤ 1000000) (gl : Nat → Int × Int) : PCalls Tryd.prog 26 [.pv (.agg [t.pt]), .pv .nilp] gl fun r gl' => r = .tup [.pv (.agg [t.pop.1.pt]), .pv (.bool t.some?)] ∧ gl' = gl := pop_ok none t h gl
theorem minM_ok (m : Option Nat) (t : LT) (gl : Nat → Int × Int) : PCalls Tryd.prog 28 [.pv (.agg [t.pt]), mv m] gl fun r gl' => r = .tup [.pv (.agg [.int .i64 t.hd.1, .int .i64 t.hd.2]), .pv (.bool t.some?)] ∧ gl' = gl := min_ok' t m gl
theorem minN_ok (t : LT) (gl : Nat → Int × Int) : PCalls Tryd.prog 28 [.pv (.agg [t.pt]), .pv .nilp] gl fun r gl' => r = .tup [.pv (.agg [.int .i64 t.hd.1, .int .i64 t.hd.2]), .pv (.bool t.some?)] ∧ gl' = gl := min_ok' t none gl
theorem sizeN_ok (t : LT) (gl : Nat → Int × Int) : PCalls Tryd.prog 21 [.pv (.agg [t.pt])] gl fun r gl' => r = .pv (.int .i64 t.sz) ∧ gl' = gl := size_ok t gl
theorem sameN_ok (a b : List El) (h : a = b) (ha : a.length ≤ 1000000) (gl : Nat → Int × Int) : PCalls Tryd.prog 19 [.pv (.list (a.map eC)), .pv (.list (b.map eC))] gl fun r gl' => r = .pv (.bool true) ∧ gl' = gl := by
  subst h
  exact (same_ok a a ha ha gl).mono fun r gl' h => by simpa using h
theorem showN_ok (t : LT) (gl : Nat → Int × Int) (h : t.ok) (hs : t.sz ≤ 1000000) : PCalls Tryd.prog 27 [.pv (.agg [t.pt])] gl fun r gl' => r = .pv (.str t.text) ∧ gl' = gl := show_ok t gl h hs
theorem drainN_ok (t : LT) (n : Int) (l : List El) (he : sortL t.els = l) (h0 : 0 ≤ n) (hn : n ≤ 100000) (ht : t.hp) (hs : t.sz ≤ n) (gl : Nat → Int × Int) : PCalls Tryd.prog 18 [.pv (.agg [t.pt]), .pv (.int .i64 n)] gl fun r gl' => r = .fresh (l.map eC) ∧ gl' = gl := by
  subst he
  obtain ⟨k, rfl⟩ : ∃ k : Nat, n = k := ⟨n.toNat, by omega⟩
  exact (drain_ok t k (by omega) (by omega) gl).mono fun r gl' ⟨h, e⟩ => ⟨by rw [h, dr_eq k t ht (by omega)], e⟩

/-- An element of 64 bits each. -/
def inE (x : El) : Prop := inI x.1 ∧ inI x.2
theorem ok_els : ∀ {t : LT}, t.ok ↔ ∀ x ∈ t.els, inE x
  | .nil => by simp [LT.ok, LT.els]
  | .node p i l r => by
    simp only [LT.ok, LT.els, List.mem_cons, List.mem_append, ok_els (t := l), ok_els (t := r)]
    constructor
    · rintro ⟨h1, h2, h3, h4⟩ x (rfl | h | h)
      · exact ⟨h1, h2⟩
      · exact h3 x h
      · exact h4 x h
    · intro h
      have := h _ (.inl rfl)
      exact ⟨this.1, this.2, fun x hx => h x (.inr (.inl hx)), fun x hx => h x (.inr (.inr hx))⟩

end Go.Proofs.YtgbcjpdhmjikgaaDoor
