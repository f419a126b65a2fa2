/- LeftistRight. -/
import Derived.Test.YtgbcjpdhmjikgaaDoorD2
namespace Go.Proofs.YtgbcjpdhmjikgaaDoor
set_option linter.unusedSimpArgs false
set_option linter.unusedVariables false

/-- The right way is the shorter one. -/
def LT.lf : LT → Prop
  | .nil => True
  | .node _ _ l r => r.rk ≤ l.rk ∧ l.lf ∧ r.lf

theorem mk_lf (p i : Int) (a b : LT) (ha : a.lf) (hb : b.lf) : (LT.mk p i a b).lf := by
  unfold LT.mk; split
  · exact ⟨by omega, hb, ha⟩
  · exact ⟨by omega, ha, hb⟩
theorem meld_lfN : ∀ (n : Nat) (a b : LT), a.sz + b.sz ≤ n → a.lf → b.lf → (LT.meld a b).1.lf ∧ (LT.meld a b).2 ≤ a.rk + b.rk
  | n, .nil, b, _, _, hb => by rw [meld_nil]; exact ⟨hb, Nat.zero_le _⟩
  | n, .node p i l r, .nil, _, ha, _ => by rw [meld_nil']; exact ⟨ha, Nat.zero_le _⟩
  | 0, .node p i l r, .node q j l' r', h, _, _ => by simp [LT.sz] at h
  | n + 1, .node p i l r, .node q j l' r', h, ha, hb => by
    simp only [LT.sz] at h
    rw [meld_node]
    split
    · have ih := meld_lfN n r' (.node p i l r) (by simp only [LT.sz]; omega) hb.2.2 ha
      refine ⟨mk_lf _ _ _ _ hb.2.1 ih.1, ?_⟩
      have := ih.2
      simp only [LT.rk] at this ⊢
      omega
    · have ih := meld_lfN n r (.node q j l' r') (by simp only [LT.sz]; omega) ha.2.2 hb
      refine ⟨mk_lf _ _ _ _ ha.2.1 ih.1, ?_⟩
      have := ih.2
      simp only [LT.rk] at this ⊢
      omega
theorem meld_lf (a b : LT) (ha : a.lf) (hb : b.lf) : (LT.meld a b).1.lf ∧ (LT.meld a b).2 ≤ a.rk + b.rk := meld_lfN _ a b (Nat.le_refl _) ha hb
theorem pow_rk : ∀ (t : LT), t.lf → 2 ^ t.rk ≤ t.sz + 1
  | .nil, _ => by simp [LT.rk, LT.sz]
  | .node p i l r, h => by
    have h1 := pow_rk l h.2.1
    have h2 := pow_rk r h.2.2
    have h3 : 2 ^ r.rk ≤ 2 ^ l.rk := Nat.pow_le_pow_right (by omega) h.1
    simp only [LT.rk, LT.sz, Nat.pow_succ]
    omega
theorem rk_log (t : LT) (h : t.lf) : t.rk ≤ (t.sz + 1).log2 := (Nat.le_log2 (by omega)).2 (pow_rk t h)
theorem foldIns_lf : ∀ (l : List El) (t : LT), t.lf → (l.foldl (fun t x => (t.ins x.1 x.2).1) t).lf
  | [], t, h => h
  | x :: l, t, h => foldIns_lf l _ (meld_lf (.node x.1 x.2 .nil .nil) t ⟨Nat.le_refl _, trivial, trivial⟩ h).1
theorem ofT_lf (l : List El) : (ofT l).lf := foldIns_lf l .nil trivial
theorem log_half (n : Nat) (h : 1 < n) : n.log2 = (n / 2).log2 + 1 := by
  rw [Nat.log2_def, if_pos (by omega)]
theorem log_one (n : Nat) (h : ¬ 1 < n) : n.log2 = 0 := by
  rw [Nat.log2_def, if_neg (by omega)]
theorem log_mono {a b : Nat} (h : a ≤ b) (h0 : 0 < a) : a.log2 ≤ b.log2 := by
  have h1 : 2 ^ a.log2 ≤ a := Nat.log2_self_le (by omega)
  exact (Nat.le_log2 (by omega)).2 (Nat.le_trans h1 h)
theorem log_lt (n : Nat) (h : n < 1000) : n.log2 ≤ 10 := by
  rcases Nat.eq_zero_or_pos n with rfl | h0
  · simp [Nat.log2_def]
  · have h1 : 2 ^ n.log2 ≤ n := Nat.log2_self_le (by omega)
    rcases Nat.lt_or_ge 10 n.log2 with h2 | h2
    · have : 2 ^ 11 ≤ 2 ^ n.log2 := Nat.pow_le_pow_right (by omega) h2
      have h3 : (2 : Nat) ^ 11 = 2048 := by decide
      omega
    · exact h2

theorem right_facts (a b : List El) : let z := (LT.meld (ofT a) (ofT b))
    z.2 ≤ (a.length + 1).log2 + (b.length + 1).log2 ∧ z.1.sz = a.length + b.length ∧ z.1.pop.2 ≤ 2 * (z.1.sz + 1).log2 := by
  intro z
  have h1 := meld_lf (ofT a) (ofT b) (ofT_lf a) (ofT_lf b)
  have ra := rk_log _ (ofT_lf a)
  have rb := rk_log _ (ofT_lf b)
  rw [ofT_sz] at ra rb
  refine ⟨Nat.le_trans h1.2 (by omega), by rw [meldSz, ofT_sz, ofT_sz], ?_⟩
  have hz : z.1.lf := h1.1
  revert hz
  generalize z.1 = t
  intro hz
  cases t with
  | nil => simp [LT.pop]
  | node p i l r =>
    have h2 := meld_lf l r hz.2.1 hz.2.2
    have rl := rk_log _ hz.2.1
    have rr := rk_log _ hz.2.2
    have m1 : (l.sz + 1).log2 ≤ ((LT.node p i l r).sz + 1).log2 := log_mono (by simp only [LT.sz]; omega) (by omega)
    have m2 : (r.sz + 1).log2 ≤ ((LT.node p i l r).sz + 1).log2 := log_mono (by simp only [LT.sz]; omega) (by omega)
    show (LT.meld l r).2 ≤ _
    omega

set_option maxHeartbeats 8000000 in
set_option maxRecDepth 4000 in
theorem right_ok (a b : List El) (_ : ∀ x ∈ a, inE x) (_ : ∀ x ∈ b, inE x) (gl : Nat → Int × Int) : PCalls Tryd.prog 13 [.pv (.list (a.map eC)), .pv (.list (b.map eC))] gl fun r _ => r = .pv (.bool true) := by
  have rf := right_facts a b
  simp only at rf
  have f1 := rf.1
  have f2 := rf.2.1
  have f3 := rf.2.2
  clear rf
  have sa := ofT_sz a
  have sb := ofT_sz b
  have hz1 : Is (LT.meld (ofT a) (ofT b)).1 (a ++ b) := (Is.of a).meld (Is.of b)
  have CM : a.length ≤ 100 → b.length ≤ 100 → ∀ (gl' : Nat → Int × Int) (gn : Nat), PCalls Tryd.prog 16 [.pv (.agg [(ofT a).pt]), .mtr gn 0, .pv (.agg [(ofT b).pt])] (upd gl' gn (0, 0)) fun r gl2 => r = .pv (.agg [(LT.meld (ofT a) (ofT b)).1.pt]) ∧ gl2 = upd gl' gn (((LT.meld (ofT a) (ofT b)).2 : Int), ((LT.meld (ofT a) (ofT b)).2 : Int)) := by
    intro ha hb gl' gn
    refine (meldM_ok (some gn) (ofT a) (ofT b) (by omega) _).mono fun r gl2 h => ⟨h.1, h.2.trans ?_⟩
    simp [tick]
  generalize (LT.meld (ofT a) (ofT b)) = z at f1 f2 f3 hz1 CM
  obtain ⟨t, c⟩ := z
  simp only at f1 f2 f3 hz1 CM
  have CP : a.length ≤ 100 → b.length ≤ 100 → ∀ (gl' : Nat → Int × Int) (gn : Nat), PCalls Tryd.prog 26 [.pv (.agg [t.pt]), .mtr gn 0] (upd gl' gn ((c : Int), (c : Int))) fun r gl2 => r = .tup [.pv (.agg [t.pop.1.pt]), .pv (.bool t.some?)] ∧ gl2 = upd gl' gn ((c : Int) + t.pop.2, (c : Int) + t.pop.2) := by
    intro ha hb gl' gn
    refine (popM_ok (some gn) t (by omega) _).mono fun r gl2 h => ⟨h.1, h.2.trans ?_⟩
    simp [tick]
  have hsome := some_iff t
  refine pcalls_of_pwp (cutImm [6, 11, 15, 19, 23, 28] noImm) Tryd.func13 rfl (by simp) mixed (by kernel_rfl) fun gn => ?_
  simp
  refine (awake_ok _).mono fun r gl' h => ?_
  subst h
  by_cases ha' : (100 : Int) < a.length
  · simp [ha']
  · by_cases hb' : (100 : Int) < b.length
    · simp [ha', hb']
    · simp [ha', hb']
      have ha : a.length ≤ 100 := by omega
      have hb : b.length ≤ 100 := by omega
      have la := log_lt (a.length + 1) (by omega)
      have lb := log_lt (b.length + 1) (by omega)
      have lt := log_lt (t.sz + 1) (by omega)
      refine pcut_at [(0, .pv (.list (a.map eC))), (1, .pv (.list (b.map eC)))] [] gl' gn (by simp) ?_
      simp
      refine (ofN_ok a (by omega) _).use ?_
      simp
      refine (ofN_ok b (by omega) _).use ?_
      simp
      refine (new_ok _).use ?_
      simp
      refine (CM ha hb gl' gn).use ?_
      simp
      refine pcut_at [(0, .pv (.list (a.map eC))), (1, .pv (.list (b.map eC))), (8, .mtr gn 0), (9, .loc 9 0), (10, .pv (.int .i64 0))] [(9, [t.pt])] (upd gl' gn ((c : Int), (c : Int))) (gn + 1) (by simp) ?_
      simp
      refine pwp_loopS (α := Nat × Nat) (fun s => s.2 + s.1.log2 = (a.length + 1).log2 ∧ s.1 ≤ 1000) (fun s => [(1, .pv (.list (b.map eC))), (8, .mtr gn 0), (9, .loc 9 0), (10, .pv (.int .i64 s.2)), (11, .pv (.int .i64 s.1))]) (fun _ => [(9, [t.pt])]) (fun _ => upd gl' gn ((c : Int), (c : Int))) (fun _ => gn + 1) (fun s => s.1) (a.length + 1, 0) (by simp; omega) (by simp; exact wr _ (by omega) (by omega)) ?_
      rintro ⟨k, n⟩ ⟨hk, hk2⟩
      simp only at hk hk2
      by_cases hlt : 1 < k
      · have hlt' : (1 : Int) < k := by omega
        have hh := log_half k hlt
        have hq : IntKind.i64.wrap ((k : Int).tdiv 2) = ((k / 2 : Nat) : Int) := by
          rw [show (k : Int).tdiv 2 = ((k / 2 : Nat) : Int) from (Int.ofNat_tdiv k 2).symm]; exact wr _ (by omega) (by omega)
        have hw : IntKind.i64.wrap ((n : Int) + 1) = ((n + 1 : Nat) : Int) := wr _ (by omega) (by omega)
        simp [hlt', hq, hw]
        refine ⟨k / 2, n + 1, ⟨by omega, by omega⟩, by omega, by omega, ?_⟩
        exact wr _ (by omega) (by omega)
      · have hlt' : ¬ (1 : Int) < k := by omega
        have hh := log_one k hlt
        have hn : n = (a.length + 1).log2 := by omega
        simp [hlt']
        refine pcut_at [(1, .pv (.list (b.map eC))), (8, .mtr gn 0), (9, .loc 9 0), (10, .pv (.int .i64 n))] [(9, [t.pt])] (upd gl' gn ((c : Int), (c : Int))) (gn + 1) (by simp) ?_
        simp
        refine pwp_loopS (α := Nat × Nat) (fun s => s.2 + s.1.log2 = (b.length + 1).log2 + n ∧ s.1 ≤ 1000) (fun s => [(8, .mtr gn 0), (9, .loc 9 0), (10, .pv (.int .i64 s.2)), (12, .pv (.int .i64 s.1))]) (fun _ => [(9, [t.pt])]) (fun _ => upd gl' gn ((c : Int), (c : Int))) (fun _ => gn + 1) (fun s => s.1) (b.length + 1, n) (by simp; omega) (by simp; exact wr _ (by omega) (by omega)) ?_
        rintro ⟨k, n'⟩ ⟨hk, hk2⟩
        simp only at hk hk2
        by_cases hlt : 1 < k
        · have hlt' : (1 : Int) < k := by omega
          have hh := log_half k hlt
          have hq : IntKind.i64.wrap ((k : Int).tdiv 2) = ((k / 2 : Nat) : Int) := by
            rw [show (k : Int).tdiv 2 = ((k / 2 : Nat) : Int) from (Int.ofNat_tdiv k 2).symm]; exact wr _ (by omega) (by omega)
          have hw : IntKind.i64.wrap ((n' : Int) + 1) = ((n' + 1 : Nat) : Int) := wr _ (by omega) (by omega)
          simp [hlt', hq, hw]
          refine ⟨k / 2, n' + 1, ⟨by omega, by omega⟩, by omega, by omega, ?_⟩
          exact wr _ (by omega) (by omega)
        · have hlt' : ¬ (1 : Int) < k := by omega
          have hh := log_one k hlt
          have hn' : n' = (a.length + 1).log2 + (b.length + 1).log2 := by omega
          have g1 : IntKind.i64.wrap ((c : Int) + c) = 2 * (c : Int) := by rw [wr _ (by omega) (by omega)]; omega
          have g2 : IntKind.i64.wrap (2 * (n' : Int)) = 2 * (n' : Int) := wr _ (by omega) (by omega)
          have g3 : ¬ n' < c := by omega
          have g3' : c ≤ n' := by omega
          simp [hlt']
          refine pcut_at [(8, .mtr gn 0), (9, .loc 9 0), (10, .pv (.int .i64 n'))] [(9, [t.pt])] (upd gl' gn ((c : Int), (c : Int))) (gn + 1) (by simp) ?_
          simp
          refine (mSteps_ok (some gn) _).use ?_
          simp [steps, g1, g2, g3, g3']
          refine (mSteps_ok (some gn) _).use ?_
          simp [steps, g1]
          refine (CP ha hb gl' gn).use ?_
          simp
          refine pcut_at [(8, .mtr gn 0), (9, .loc 9 0), (13, .pv (.int .i64 (2 * (c : Int)))), (15, .pv (.bool t.some?))] [(9, [t.pt])] (upd gl' gn ((c : Int) + t.pop.2, (c : Int) + t.pop.2)) (gn + 1) (by simp) ?_
          simp
          refine (sizeN_ok _ _).use ?_
          simp
          refine pwp_loopS (α := Nat × Nat) (fun s => s.2 + s.1.log2 = (t.sz + 1).log2 ∧ s.1 ≤ 1000) (fun s => [(8, .mtr gn 0), (9, .loc 9 0), (10, .pv (.int .i64 s.2)), (13, .pv (.int .i64 (2 * (c : Int)))), (15, .pv (.bool t.some?)), (16, .pv (.int .i64 s.1))]) (fun _ => [(9, [t.pt])]) (fun _ => upd gl' gn ((c : Int) + t.pop.2, (c : Int) + t.pop.2)) (fun _ => gn + 1) (fun s => s.1) (t.sz + 1, 0) (by simp; omega) (by simp; exact wr _ (by omega) (by omega)) ?_
          rintro ⟨k, n''⟩ ⟨hk, hk2⟩
          simp only at hk hk2
          by_cases hlt : 1 < k
          · have hlt' : (1 : Int) < k := by omega
            have hh := log_half k hlt
            have hq : IntKind.i64.wrap ((k : Int).tdiv 2) = ((k / 2 : Nat) : Int) := by
              rw [show (k : Int).tdiv 2 = ((k / 2 : Nat) : Int) from (Int.ofNat_tdiv k 2).symm]; exact wr _ (by omega) (by omega)
            have hw : IntKind.i64.wrap ((n'' : Int) + 1) = ((n'' + 1 : Nat) : Int) := wr _ (by omega) (by omega)
            simp [hlt', hq, hw]
            refine ⟨k / 2, n'' + 1, ⟨by omega, by omega⟩, by omega, by omega, ?_⟩
            exact wr _ (by omega) (by omega)
          · have hlt' : ¬ (1 : Int) < k := by omega
            have hh := log_one k hlt
            have hn'' : n'' = (t.sz + 1).log2 := by omega
            simp [hlt']
            refine pcut_at [(8, .mtr gn 0), (9, .loc 9 0), (10, .pv (.int .i64 n'')), (13, .pv (.int .i64 (2 * (c : Int)))), (15, .pv (.bool t.some?))] [(9, [t.pt])] (upd gl' gn ((c : Int) + t.pop.2, (c : Int) + t.pop.2)) (gn + 1) (by simp) ?_
            simp
            refine (sizeN_ok _ _).use ?_
            have g4 : IntKind.i64.wrap (4 * (n'' : Int)) = 4 * (n'' : Int) := wr _ (by omega) (by omega)
            simp [hsome]
            refine (mSince_ok (some gn) _ _).use ?_
            have g5 : IntKind.i64.wrap ((c : Int) + t.pop.2 + ((c : Int) + t.pop.2) - 2 * (c : Int)) = 2 * (t.pop.2 : Int) := by rw [wr _ (by omega) (by omega)]; omega
            have g6 : 2 * (t.pop.2 : Int) ≤ 4 * (n'' : Int) := by omega
            simp [g4, g5, g6]

end Go.Proofs.YtgbcjpdhmjikgaaDoor
