/- The document's heaps, and numbers as texts. -/
import Derived.Test.YtgbcjpdhmjikgaaDoorD2
import Derived.Test.YtgbcjpdhmjikgaaDoorJ2
namespace Go.Proofs.YtgbcjpdhmjikgaaDoor
set_option linter.unusedSimpArgs false
set_option linter.unusedVariables false

/-- The document's heap, as cells. -/
def LT.hc : LT → List PV
  | .nil => [.int .i64 0, .int .i64 0, .list []]
  | .node p i l r => [.int .i64 p, .int .i64 i, .list [l.hc, r.hc]]

theorem hc_len : ∀ t : LT, t.hc.length = 3
  | .nil => rfl
  | .node _ _ _ _ => rfl
@[simp] theorem take_hc (t : LT) : List.take 3 t.hc = t.hc := List.take_of_length_le (by rw [hc_len]; exact Nat.le_refl _)
theorem wide3 (l r : LT) : Wide 3 [l.hc, r.hc] := by
  intro x hx
  rcases List.mem_cons.1 hx with rfl | hx
  · exact hc_len l
  · rw [List.mem_singleton.1 hx]; exact hc_len r

theorem refRank_ok : ∀ (t : LT) (gl : Nat → Int × Int), t.sz ≤ 1000000 → PCalls Tryd.prog 43 [.pv (.agg t.hc)] gl fun r gl' => r = .pv (.int .i64 t.rk) ∧ gl' = gl
  | .nil, gl, _ => by
    refine pcalls_of_pwp noImm Tryd.func43 rfl (by simp) mixed (by kernel_rfl) fun gn => ?_
    simp [LT.hc, LT.rk]
  | .node p i l r, gl, h => by
    simp only [LT.sz] at h
    have hr := rk_le r
    have hlen := hc_len r
    have w := wide3 l r
    refine pcalls_of_pwp noImm Tryd.func43 rfl (by simp) mixed (by kernel_rfl) fun gn => ?_
    simp [LT.hc, w, hlen]
    refine (refRank_ok r _ (by omega)).use ?_
    simp [LT.rk]
    rw [wr _ (by omega) (by omega)]
    omega

theorem refSize_ok : ∀ (t : LT) (gl : Nat → Int × Int), t.sz ≤ 1000000 → PCalls Tryd.prog 31 [.pv (.agg t.hc)] gl fun r gl' => r = .pv (.int .i64 t.sz) ∧ gl' = gl
  | .nil, gl, _ => by
    refine pcalls_of_pwp noImm Tryd.func31 rfl (by simp) mixed (by kernel_rfl) fun gn => ?_
    simp [LT.hc, LT.sz]
  | .node p i l r, gl, h => by
    simp only [LT.sz] at h
    have hl1 := hc_len l
    have hl2 := hc_len r
    have w := wide3 l r
    refine pcalls_of_pwp noImm Tryd.func31 rfl (by simp) mixed (by kernel_rfl) fun gn => ?_
    simp [LT.hc, w, hl1, hl2]
    refine (refSize_ok l _ (by omega)).use ?_
    simp [w, hl1, hl2]
    refine (refSize_ok r _ (by omega)).use ?_
    simp [LT.sz]
    rw [wr (1 + _) (by omega) (by omega), wr _ (by omega) (by omega)]

theorem mk_hc (p i : Int) (a b : LT) : (LT.mk p i a b).hc = [.int .i64 p, .int .i64 i, .list (if a.rk < b.rk then [b.hc, a.hc] else [a.hc, b.hc])] := by
  unfold LT.mk; split <;> rfl

theorem meld_cnt : ∀ (n : Nat) (a b : LT), a.sz + b.sz ≤ n → (LT.meld a b).2 ≤ a.sz + b.sz
  | n, .nil, b, _ => by rw [meld_nil]; exact Nat.zero_le _
  | n, .node p i l r, .nil, _ => by rw [meld_nil']; exact Nat.zero_le _
  | 0, .node p i l r, .node q j l' r', h => by simp [LT.sz] at h
  | n + 1, .node p i l r, .node q j l' r', h => by
    simp only [LT.sz] at h
    rw [meld_node]
    split
    · have := meld_cnt n r' (.node p i l r) (by simp only [LT.sz]; omega)
      simp only [LT.sz] at this ⊢; omega
    · have := meld_cnt n r (.node q j l' r') (by simp only [LT.sz]; omega)
      simp only [LT.sz] at this ⊢; omega

set_option maxHeartbeats 8000000 in
set_option maxRecDepth 4000 in
theorem refMeld_ok : ∀ (n : Nat) (a b : LT) (gl : Nat → Int × Int), a.sz + b.sz ≤ n → n ≤ 1000000 → PCalls Tryd.prog 33 [.pv (.agg a.hc), .pv (.agg b.hc)] gl fun r gl' => r = .tup [.pv (.agg (LT.meld a b).1.hc), .pv (.int .i64 (2 * (LT.meld a b).2))] ∧ gl' = gl
  | n, .nil, b, gl, _, _ => by
    have hl2 := hc_len b
    rw [meld_nil]
    refine pcalls_of_pwp noImm Tryd.func33 rfl (by simp) mixed (by kernel_rfl) fun gn => ?_
    simp [LT.hc, hl2]
  | n, .node p i l r, .nil, gl, _, _ => by
    rw [meld_nil']
    refine pcalls_of_pwp noImm Tryd.func33 rfl (by simp) mixed (by kernel_rfl) fun gn => ?_
    simp [LT.hc]
  | 0, .node p i l r, .node q j l' r', _, h, _ => by simp [LT.sz] at h
  | n + 1, .node p i l r, .node q j l' r', gl, h, hn => by
    simp only [LT.sz] at h
    have g1 := hc_len l
    have g2 := hc_len r
    have g3 := hc_len l'
    have g4 := hc_len r'
    have w := wide3 l r
    have w' := wide3 l' r'
    by_cases hl : ltI q j p i = true
    · have hmn : LT.meld (.node p i l r) (.node q j l' r') = (LT.mk q j l' (LT.meld r' (.node p i l r)).1, (LT.meld r' (.node p i l r)).2 + 1) := by rw [meld_node, if_pos hl]
      rw [hmn]
      have hz := meldSz r' (.node p i l r)
      have hc := meld_cnt _ r' (.node p i l r) (Nat.le_refl _)
      simp only [LT.sz] at hz hc
      have ih := refMeld_ok n r' (.node p i l r) gl (by simp only [LT.sz]; omega) (by omega)
      generalize LT.meld r' (.node p i l r) = M at ih hz hc
      obtain ⟨t, c⟩ := M
      simp only at ih hz hc ⊢
      have g5 := hc_len t
      have w2 := wide3 l' t
      have w3 := wide3 t l'
      have hm := mk_hc q j l' t
      rw [hm]
      have h2 : IntKind.i64.wrap (2 * (c : Int) + 2) = 2 * ((c : Int) + 1) := by rw [wr _ (by omega) (by omega)]; omega
      refine pcalls_of_pwp noImm Tryd.func33 rfl (by simp) mixed (by kernel_rfl) fun gn => ?_
      simp [LT.hc]
      refine (refLess_ok q j p i _).use ?_
      simp [hl, g3, g4, w']
      refine ih.use ?_
      simp [g3, g4, w', g5]
      refine (refRank_ok l' _ (by omega)).use ?_
      simp [g3, g4, w', g5]
      refine (refRank_ok t _ (by omega)).use ?_
      by_cases hr : LT.rk l' < LT.rk t
      · simp [hr, g3, g4, w', g5, h2]
      · simp [hr, g3, g4, w', g5, h2]
    · have hmn : LT.meld (.node p i l r) (.node q j l' r') = (LT.mk p i l (LT.meld r (.node q j l' r')).1, (LT.meld r (.node q j l' r')).2 + 1) := by rw [meld_node, if_neg hl]
      rw [hmn]
      have hz := meldSz r (.node q j l' r')
      have hc := meld_cnt _ r (.node q j l' r') (Nat.le_refl _)
      simp only [LT.sz] at hz hc
      have ih := refMeld_ok n r (.node q j l' r') gl (by simp only [LT.sz]; omega) (by omega)
      generalize LT.meld r (.node q j l' r') = M at ih hz hc
      obtain ⟨t, c⟩ := M
      simp only at ih hz hc ⊢
      have g5 := hc_len t
      have w2 := wide3 l t
      have w3 := wide3 t l
      have hm := mk_hc p i l t
      rw [hm]
      have h2 : IntKind.i64.wrap (2 * (c : Int) + 2) = 2 * ((c : Int) + 1) := by rw [wr _ (by omega) (by omega)]; omega
      refine pcalls_of_pwp noImm Tryd.func33 rfl (by simp) mixed (by kernel_rfl) fun gn => ?_
      simp [LT.hc]
      refine (refLess_ok q j p i _).use ?_
      simp [hl, g1, g2, w]
      refine ih.use ?_
      simp [g1, g2, w, g5]
      refine (refRank_ok l _ (by omega)).use ?_
      simp [g1, g2, w, g5]
      refine (refRank_ok t _ (by omega)).use ?_
      by_cases hr : LT.rk l < LT.rk t
      · simp [hr, g1, g2, w, g5, h2]
      · simp [hr, g1, g2, w, g5, h2]

theorem refIns_ok (t : LT) (p i : Int) (h : t.sz < 1000000) (gl : Nat → Int × Int) : PCalls Tryd.prog 32 [.pv (.agg [.int .i64 p, .int .i64 i]), .pv (.agg t.hc)] gl fun r gl' => r = .tup [.pv (.agg (t.ins p i).1.hc), .pv (.int .i64 (2 * (t.ins p i).2 + 1))] ∧ gl' = gl := by
  have g1 := hc_len t
  have M := refMeld_ok 1000000 (.node p i .nil .nil) t gl (by simp only [LT.sz]; omega) (by omega)
  have hc := meld_cnt _ (.node p i .nil .nil) t (Nat.le_refl _)
  simp only [LT.sz] at hc
  have hw : IntKind.i64.wrap (2 * ((t.ins p i).2 : Int) + 1) = 2 * ((t.ins p i).2 : Int) + 1 := by unfold LT.ins; exact wr _ (by omega) (by omega)
  have g2 := hc_len (t.ins p i).1
  refine pcalls_of_pwp noImm Tryd.func32 rfl (by simp) mixed (by kernel_rfl) fun gn => ?_
  simp [g1]
  refine M.use ?_
  have e : LT.meld (.node p i .nil .nil) t = t.ins p i := rfl
  simp [e, g2, hw]

theorem refMin_ok (t : LT) (gl : Nat → Int × Int) : PCalls Tryd.prog 35 [.pv (.agg t.hc)] gl fun r gl' => r = .tup [.pv (.agg [.int .i64 t.hd.1, .int .i64 t.hd.2]), .pv (.int .i64 0)] ∧ gl' = gl := by
  refine pcalls_of_pwp noImm Tryd.func35 rfl (by simp) mixed (by kernel_rfl) fun gn => ?_
  cases t with
  | nil => simp [LT.hc, LT.hd]
  | node p i l r => simp [LT.hc, LT.hd]

theorem refPop_ok (t : LT) (h : t.sz ≤ 1000000) (gl : Nat → Int × Int) : PCalls Tryd.prog 34 [.pv (.agg t.hc)] gl fun r gl' => r = .tup [.pv (.agg t.pop.1.hc), .pv (.int .i64 (2 * t.pop.2))] ∧ gl' = gl := by
  cases t with
  | nil =>
    refine pcalls_of_pwp noImm Tryd.func34 rfl (by simp) mixed (by kernel_rfl) fun gn => ?_
    simp [LT.hc, LT.pop]
  | node p i l r =>
    simp only [LT.sz] at h
    have g1 := hc_len l
    have g2 := hc_len r
    have w := wide3 l r
    have M := refMeld_ok 1000000 l r gl (by omega) (by omega)
    have g3 := hc_len (LT.meld l r).1
    refine pcalls_of_pwp noImm Tryd.func34 rfl (by simp) mixed (by kernel_rfl) fun gn => ?_
    simp [LT.hc, w, g1, g2]
    refine M.use ?_
    simp [LT.pop, g3]

set_option maxHeartbeats 4000000 in
theorem refShow_ok : ∀ (t : LT) (gl : Nat → Int × Int), t.ok → t.sz ≤ 1000000 → PCalls Tryd.prog 36 [.pv (.agg t.hc)] gl fun r gl' => r = .pv (.str t.text) ∧ gl' = gl
  | .nil, gl, _, _ => by
    refine pcalls_of_pwp noImm Tryd.func36 rfl (by simp) mixed (by kernel_rfl) fun gn => ?_
    simp [LT.hc, LT.text]
  | .node p i l r, gl, h, hs => by
    have h1 := text_len l h.2.2.1
    have h2 := text_len r h.2.2.2
    have h3 := txt_len p i h.1 h.2.1
    simp only [LT.sz] at hs
    have g1 := hc_len l
    have g2 := hc_len r
    have w := wide3 l r
    refine pcalls_of_pwp noImm Tryd.func36 rfl (by simp) mixed (by kernel_rfl) fun gn => ?_
    simp [LT.hc]
    refine (refText_ok p i h.1 h.2.1 _).use ?_
    simp [w, g1, g2]
    refine ⟨by omega, by omega, ?_⟩
    refine (refShow_ok l _ h.2.2.1 (by omega)).use ?_
    simp [w, g1, g2]
    refine ⟨by omega, by omega, ?_⟩
    refine (refShow_ok r _ h.2.2.2 (by omega)).use ?_
    simp [LT.text]
    omega

end Go.Proofs.YtgbcjpdhmjikgaaDoor
