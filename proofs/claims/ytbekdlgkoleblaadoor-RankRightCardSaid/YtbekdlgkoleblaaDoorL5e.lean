/- RankRight: the plain law. -/
import Derived.Test.YtbekdlgkoleblaaDoorL5b
namespace Go.Proofs.YtbekdlgkoleblaaDoor
set_option linter.unusedSimpArgs false
set_option linter.unusedVariables false

theorem pt_cells (t : RT) : PV.cells t.pt = [t.pt] := by
  rw [pt_eq]; rfl
theorem rightL_shift (x : El) : ∀ (l : List RT) (r : Int) (i : Nat), RT.rightL (r + 1) x (i + 1) l = RT.rightL r x i l
  | [], r, i => by rw [RT.rightL, RT.rightL]
  | k :: l, r, i => by
    rw [RT.rightL, RT.rightL, rightL_shift x l r (i + 1)]
    have : r + 1 - 1 - ((i + 1 : Nat) : Int) = r - 1 - (i : Int) := by omega
    rw [this]
theorem rightL_root (x x' : El) : ∀ (l : List RT) (r : Int) (i : Nat), RT.rightL r x i l = true → (∀ k ∈ l, ltI k.x.1 k.x.2 x'.1 x'.2 = false) → RT.rightL r x' i l = true
  | [], r, i, _, _ => by rw [RT.rightL]
  | k :: l, r, i, h, h' => by
    rw [RT.rightL] at h ⊢
    simp only [Bool.and_eq_true, Bool.not_eq_true'] at h ⊢
    exact ⟨h.1, h.2.1, h' k (by simp), rightL_root x x' l r (i + 1) h.2.2.2 fun z hz => h' z (by simp [hz])⟩

/-- A tree that is good: of such a rank, well formed, its root the least. -/
structure Gd (j : Nat) (t : RT) : Prop where
  rk : t.rank = j
  rt : t.right = true
  mn : ∀ y ∈ t.all, le t.x y

theorem right_parts {t : RT} (h : t.right = true) : (t.kids.length : Int) = t.rank ∧ (t.beside.length : Int) ≤ t.rank ∧ RT.rightL t.rank t.x 0 t.kids = true ∧ ∀ y ∈ t.beside, ltI y.1 y.2 t.x.1 t.x.2 = false := by
  rw [right_eq] at h
  simp only [Bool.and_eq_true, decide_eq_true_eq, Bool.not_eq_true', List.any_eq_false] at h
  exact ⟨h.1, h.2.1, h.2.2.1, fun y hy => by simpa using h.2.2.2 y hy⟩
theorem right_of {r : Int} {x : El} {b : List El} {kids : List RT} (h1 : (kids.length : Int) = r) (h2 : (b.length : Int) ≤ r) (h3 : RT.rightL r x 0 kids = true) (h4 : ∀ y ∈ b, ltI y.1 y.2 x.1 x.2 = false) : (RT.node r x b kids).right = true := by
  rw [right_eq]
  simp only [Bool.and_eq_true, decide_eq_true_eq, Bool.not_eq_true', List.any_eq_false]
  exact ⟨h1, h2, h3, fun y hy e => absurd ((h4 y hy).symm.trans e) (by decide)⟩

theorem x_mem (t : RT) : t.x ∈ t.all := by rw [all_node]; simp
theorem Gd.leaf (y : El) : Gd 0 (RT.leaf y) :=
  ⟨rfl, right_of rfl (by simp) (by rw [RT.rightL]) (by simp), fun z hz => by
    have : z = y := by simpa [RT.leaf, RT.all, RT.allL] using hz
    subst this; exact le_refl _⟩

theorem link_one {j : Nat} {a b : RT} (ha : Gd j a) (hb : Gd j b) (h : ltI b.x.1 b.x.2 a.x.1 a.x.2 = false) : Gd (j + 1) (.node (a.rank + 1) a.x a.beside (b :: a.kids)) ∧ (a.beside.length : Int) ≤ j := by
  obtain ⟨a1, a2, a3, a4⟩ := right_parts ha.rt
  have hr := ha.rk
  refine ⟨⟨show a.rank + 1 = _ by rw [hr]; simp, right_of (by simp; omega) (by omega) ?_ a4, fun y hy => ?_⟩, by omega⟩
  · rw [RT.rightL, show (0 + 1 : Nat) = 0 + 1 from rfl, rightL_shift]
    simp only [Bool.and_eq_true, decide_eq_true_eq, Bool.not_eq_true']
    refine ⟨?_, hb.rt, h, a3⟩
    rw [hb.rk, hr]; simp
  · have hy' : y ∈ a.all ++ b.all := by
      have e : (RT.node (a.rank + 1) a.x a.beside (b :: a.kids)).all = (a.x :: a.beside) ++ (b.all ++ RT.allL a.kids) := by simp [RT.all, RT.allL]
      have e2 : a.all = (a.x :: a.beside) ++ RT.allL a.kids := by rw [all_node]; simp
      rw [e] at hy
      rw [e2]
      simp only [List.mem_append] at hy ⊢
      rcases hy with hy | hy | hy
      · exact .inl (.inl hy)
      · exact .inr hy
      · exact .inl (.inr hy)
    show le a.x y
    rcases List.mem_append.1 hy' with hy | hy
    · exact ha.mn y hy
    · exact le_trans (show le a.x b.x from h) (hb.mn y hy)

theorem Gd.link {j : Nat} {a b : RT} (ha : Gd j a) (hb : Gd j b) : Gd (j + 1) (RT.link a b) ∧ ((RT.link a b).beside.length : Int) ≤ j := by
  unfold RT.link
  by_cases h : ltI b.x.1 b.x.2 a.x.1 a.x.2 = true
  · rw [if_pos h]; exact link_one hb ha (ltI_asymm h)
  · rw [if_neg h]; exact link_one ha hb (by simpa using h)

theorem Gd.skew {j : Nat} {t : RT} (x : El) (ht : Gd (j + 1) t) (hb : (t.beside.length : Int) ≤ j) : Gd (j + 1) (RT.skew x t) := by
  obtain ⟨t1, t2, t3, t4⟩ := right_parts ht.rt
  have hr := ht.rk
  have hall := skew_perm x t
  unfold RT.skew at hall ⊢
  by_cases h : ltI t.x.1 t.x.2 x.1 x.2 = true
  · rw [if_pos h] at hall ⊢
    refine ⟨hr, right_of t1 (by simp only [List.length_cons]; omega) t3 fun y hy => ?_, fun y hy => ?_⟩
    · rcases List.mem_cons.1 hy with rfl | hy
      · exact ltI_asymm h
      · exact t4 y hy
    · show le t.x y
      rcases List.mem_cons.1 (hall.subset hy) with rfl | hy
      · exact lt_le h
      · exact ht.mn y hy
  · rw [if_neg h] at hall ⊢
    have h' : ltI t.x.1 t.x.2 x.1 x.2 = false := by simpa using h
    refine ⟨hr, right_of t1 (by simp only [List.length_cons]; omega) (rightL_root t.x x _ _ _ t3 fun k hk => ?_) fun y hy => ?_, fun y hy => ?_⟩
    · exact ltI_chain (z := x) (m := t.x) h' (ht.mn k.x (by rw [all_node]; simp [mem_allL hk (x_mem k)]))
    · rcases List.mem_cons.1 hy with rfl | hy
      · exact h'
      · exact ltI_chain (z := x) (m := t.x) h' (t4 y hy)
    · show le x y
      rcases List.mem_cons.1 (hall.subset hy) with rfl | hy
      · exact le_refl _
      · exact le_trans (show le x t.x from h') (ht.mn y hy)

theorem allL_app : ∀ (a b : List RT), RT.allL (a ++ b) = RT.allL a ++ RT.allL b
  | [], b => by simp [RT.allL]
  | k :: a, b => by simp [RT.allL, allL_app a b]
theorem allL_leaf : ∀ (l : List El), RT.allL (l.map RT.leaf) = l
  | [] => rfl
  | y :: l => by
    have := allL_leaf l
    simp only [List.map_cons, RT.allL, this]
    simp [RT.leaf, RT.all, RT.allL]
theorem allL_mem_len : ∀ {l : List RT} {t : RT}, t ∈ l → t.sz ≤ (RT.allL l).length
  | k :: l, t, h => by
    simp only [RT.allL, List.length_append, all_len]
    rcases List.mem_cons.1 h with rfl | h
    · omega
    · have := allL_mem_len h; omega

/-- At the end: the root is the least of what was put in. -/
theorem root_first {k : Nat} {t : RT} {l : List El} (h : Gd k t) (hp : t.all.Perm l) : ∃ rest, sortL l = t.x :: rest := by
  have hs := sortL_srt l
  have hq := sortL_perm l
  cases hz : sortL l with
  | nil =>
    rw [hz] at hq
    have := (hq.trans hp.symm).mem_iff.2 (x_mem t)
    cases this
  | cons s rest =>
    rw [hz] at hq hs
    have h1 : le t.x s := h.mn s ((hp.trans hq.symm).mem_iff.2 (by simp))
    have h2 : le s t.x := by
      rcases List.mem_cons.1 ((hp.trans hq.symm).mem_iff.1 (x_mem t)) with e | hm
      · rw [e]; exact le_refl _
      · exact (List.pairwise_cons.1 hs).1 _ hm
    exact ⟨rest, by rw [le_antisymm h2 h1]⟩
end Go.Proofs.YtbekdlgkoleblaaDoor
