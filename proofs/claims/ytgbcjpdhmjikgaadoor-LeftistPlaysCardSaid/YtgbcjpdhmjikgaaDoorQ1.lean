/- Elements in order: rows, and heaps; no program in sight. -/
import Derived.Test.YtgbcjpdhmjikgaaDoorR1
set_option linter.unusedVariables false
namespace Go.Proofs.YtgbcjpdhmjikgaaDoor

abbrev El := Int × Int
def le (x y : El) : Prop := ltI y.1 y.2 x.1 x.2 = false

theorem le_iff (x y : El) : le x y ↔ x.1 < y.1 ∨ (x.1 = y.1 ∧ x.2 ≤ y.2) := by
  unfold le ltI
  rw [Bool.or_eq_false_iff, Bool.and_eq_false_iff, decide_eq_false_iff_not, decide_eq_false_iff_not, decide_eq_false_iff_not]
  omega
theorem lt_iff (p i q j : Int) : ltI p i q j = true ↔ p < q ∨ (p = q ∧ i < j) := by
  unfold ltI
  rw [Bool.or_eq_true, Bool.and_eq_true, decide_eq_true_iff, decide_eq_true_iff, decide_eq_true_iff]
theorem lt_le {x y : El} (h : ltI x.1 x.2 y.1 y.2 = true) : le x y := by
  rw [lt_iff] at h; rw [le_iff]; omega
theorem le_refl (x : El) : le x x := by rw [le_iff]; omega
theorem le_trans {x y z : El} (h : le x y) (k : le y z) : le x z := by
  rw [le_iff] at h k ⊢; omega
theorem le_antisymm {x y : El} (h : le x y) (k : le y x) : x = y := by
  rw [le_iff] at h k
  exact Prod.ext (by omega) (by omega)

def Srt (l : List El) : Prop := l.Pairwise le

theorem srt_uniq : ∀ {a b : List El}, Srt a → Srt b → a.Perm b → a = b
  | [], b, _, _, h => (List.nil_perm.1 h).symm
  | x :: a, [], _, _, h => absurd (List.perm_nil.1 h) (by simp)
  | x :: a, y :: b, ha, hb, h => by
    have hx : x ∈ y :: b := h.subset (List.mem_cons_self ..)
    have hy : y ∈ x :: a := h.symm.subset (List.mem_cons_self ..)
    have e : x = y := by
      refine le_antisymm ?_ ?_
      · rcases List.mem_cons.1 hy with rfl | hy
        · exact le_refl _
        · exact (List.pairwise_cons.1 ha).1 _ hy
      · rcases List.mem_cons.1 hx with rfl | hx
        · exact le_refl _
        · exact (List.pairwise_cons.1 hb).1 _ hx
    subst e
    rw [srt_uniq (List.pairwise_cons.1 ha).2 (List.pairwise_cons.1 hb).2 ((List.perm_cons x).1 h)]

theorem putL_perm : ∀ (l : List El) (x : El), (putL l x).Perm (x :: l)
  | [], _ => .refl _
  | y :: l, x => by
    simp only [putL]; split
    · exact ((putL_perm l x).cons y).trans (.swap x y l)
    · exact .refl _
theorem putL_srt : ∀ (l : List El) (x : El), Srt l → Srt (putL l x)
  | [], x, _ => List.pairwise_cons.2 ⟨fun _ h => (by cases h), .nil⟩
  | y :: l, x, h => by
    obtain ⟨h1, h2⟩ := List.pairwise_cons.1 h
    simp only [putL]; split
    · rename_i hl
      refine List.pairwise_cons.2 ⟨fun z hz => ?_, putL_srt l x h2⟩
      rcases List.mem_cons.1 ((putL_perm l x).subset hz) with rfl | hz
      · exact lt_le hl
      · exact h1 z hz
    · rename_i hl
      have hxy : le x y := by unfold le; simpa using hl
      refine List.pairwise_cons.2 ⟨fun z hz => ?_, h⟩
      rcases List.mem_cons.1 hz with rfl | hz
      · exact hxy
      · exact le_trans hxy (h1 z hz)

/-- Of a row in order, and another one, all in order. -/
def sumL (a b : List El) : List El := b.foldl putL a
def sortL (l : List El) : List El := sumL [] l

theorem sumL_perm : ∀ (b a : List El), (sumL a b).Perm (a ++ b)
  | [], a => by simp [sumL]
  | x :: b, a => (sumL_perm b (putL a x)).trans (((putL_perm a x).append_right b).trans List.perm_middle.symm)
theorem sumL_srt : ∀ (b a : List El), Srt a → Srt (sumL a b)
  | [], a, h => h
  | x :: b, a, h => sumL_srt b (putL a x) (putL_srt a x h)
theorem sumL_len (b a : List El) : (sumL a b).length = a.length + b.length := by
  rw [(sumL_perm b a).length_eq, List.length_append]
theorem sortL_perm (l : List El) : (sortL l).Perm l := sumL_perm l []
theorem sortL_srt (l : List El) : Srt (sortL l) := sumL_srt l [] .nil
theorem sortL_len (l : List El) : (sortL l).length = l.length := by rw [(sortL_perm l).length_eq]
theorem sort_eq {a b : List El} (ha : Srt a) (h : a.Perm b) : a = sortL b := srt_uniq ha (sortL_srt b) (h.trans (sortL_perm b).symm)
theorem sumL_sort (a b : List El) : sumL (sortL a) (sortL b) = sortL (a ++ b) :=
  sort_eq (sumL_srt _ _ (sortL_srt a)) ((sumL_perm _ _).trans ((sortL_perm a).append (sortL_perm b)))
theorem sort_perm {a b : List El} (h : a.Perm b) : sortL a = sortL b := sort_eq (sortL_srt a) ((sortL_perm a).trans h)
theorem sort_srt {a : List El} (h : Srt a) : sortL a = a := (sort_eq h (.refl a)).symm

/-- A heap's elements. -/
def LT.els : LT → List El
  | .nil => []
  | .node p i l r => (p, i) :: (l.els ++ r.els)
/-- In order. -/
def LT.hp : LT → Prop
  | .nil => True
  | .node p i l r => (∀ x ∈ l.els ++ r.els, le (p, i) x) ∧ l.hp ∧ r.hp

theorem els_len : ∀ t : LT, t.els.length = t.sz
  | .nil => rfl
  | .node p i l r => by simp [LT.els, LT.sz, els_len l, els_len r]; omega

theorem mk_els (p i : Int) (a b : LT) : (LT.mk p i a b).els.Perm ((p, i) :: (a.els ++ b.els)) := by
  unfold LT.mk; split
  · exact List.perm_append_comm.cons _
  · exact .refl _
theorem mk_hp (p i : Int) (a b : LT) (ha : a.hp) (hb : b.hp) (h : ∀ x ∈ a.els ++ b.els, le (p, i) x) : (LT.mk p i a b).hp := by
  unfold LT.mk; split
  · exact ⟨fun x hx => h x (List.perm_append_comm.subset hx), hb, ha⟩
  · exact ⟨h, ha, hb⟩

theorem perm_swap3 {α : Type} (x y : α) (a b c d : List α) : (y :: (c ++ (d ++ (x :: (a ++ b))))).Perm (x :: (a ++ b) ++ y :: (c ++ d)) := by
  refine List.Perm.trans ?_ (List.perm_middle (a := y) (l₁ := x :: (a ++ b)) (l₂ := c ++ d)).symm
  refine List.Perm.cons y ?_
  rw [← List.append_assoc]
  exact List.perm_append_comm

theorem meld_els : ∀ (n : Nat) (a b : LT), a.sz + b.sz ≤ n → (LT.meld a b).1.els.Perm (a.els ++ b.els)
  | n, .nil, b, _ => by rw [meld_nil]; exact .refl _
  | n, .node p i l r, .nil, _ => by rw [meld_nil']; simp [LT.els]
  | 0, .node p i l r, .node q j l' r', h => by simp [LT.sz] at h
  | n + 1, .node p i l r, .node q j l' r', h => by
    simp only [LT.sz] at h
    rw [meld_node]
    split
    · refine (mk_els _ _ _ _).trans ?_
      have ih := meld_els n r' (.node p i l r) (by simp only [LT.sz]; omega)
      refine ((ih.append_left l'.els).cons _).trans ?_
      exact perm_swap3 _ _ _ _ _ _
    · refine (mk_els _ _ _ _).trans ?_
      have ih := meld_els n r (.node q j l' r') (by simp only [LT.sz]; omega)
      refine ((ih.append_left l.els).cons _).trans ?_
      simp [LT.els]
theorem meld_perm (a b : LT) : (LT.meld a b).1.els.Perm (a.els ++ b.els) := meld_els _ a b (Nat.le_refl _)

theorem meld_hpN : ∀ (n : Nat) (a b : LT), a.sz + b.sz ≤ n → a.hp → b.hp → (LT.meld a b).1.hp
  | n, .nil, b, _, _, hb => by rw [meld_nil]; exact hb
  | n, .node p i l r, .nil, _, ha, _ => by rw [meld_nil']; exact ha
  | 0, .node p i l r, .node q j l' r', h, _, _ => by simp [LT.sz] at h
  | n + 1, .node p i l r, .node q j l' r', h, ha, hb => by
    simp only [LT.sz] at h
    obtain ⟨a1, a2, a3⟩ := ha
    obtain ⟨b1, b2, b3⟩ := hb
    rw [meld_node]
    split
    · rename_i hl
      have hqp : le (q, j) (p, i) := lt_le (x := (q, j)) (y := (p, i)) hl
      refine mk_hp _ _ _ _ b2 (meld_hpN n _ _ (by simp only [LT.sz]; omega) b3 ⟨a1, a2, a3⟩) fun x hx => ?_
      rcases List.mem_append.1 hx with hx | hx
      · exact b1 x (List.mem_append_left _ hx)
      · rcases List.mem_append.1 ((meld_perm _ _).subset hx) with hx | hx
        · exact b1 x (List.mem_append_right _ hx)
        · rcases List.mem_cons.1 hx with rfl | hx
          · exact hqp
          · exact le_trans hqp (a1 x hx)
    · rename_i hl
      have hpq : le (p, i) (q, j) := by unfold le; simpa using hl
      refine mk_hp _ _ _ _ a2 (meld_hpN n _ _ (by simp only [LT.sz]; omega) a3 ⟨b1, b2, b3⟩) fun x hx => ?_
      rcases List.mem_append.1 hx with hx | hx
      · exact a1 x (List.mem_append_left _ hx)
      · rcases List.mem_append.1 ((meld_perm _ _).subset hx) with hx | hx
        · exact a1 x (List.mem_append_right _ hx)
        · rcases List.mem_cons.1 hx with rfl | hx
          · exact hpq
          · exact le_trans hpq (b1 x hx)
theorem meld_hp (a b : LT) (ha : a.hp) (hb : b.hp) : (LT.meld a b).1.hp := meld_hpN _ a b (Nat.le_refl _) ha hb
theorem meldSz (a b : LT) : (LT.meld a b).1.sz = a.sz + b.sz := meld_sz _ a b (Nat.le_refl _)

theorem ins_perm (t : LT) (p i : Int) : (t.ins p i).1.els.Perm ((p, i) :: t.els) := by
  have := meld_perm (.node p i .nil .nil) t
  simpa [LT.els, LT.ins] using this
theorem ins_hp (t : LT) (p i : Int) (h : t.hp) : (t.ins p i).1.hp := meld_hp _ _ ⟨by simp [LT.els], trivial, trivial⟩ h

/-- What is taken out, one by one. -/
def LT.dr : Nat → LT → List El
  | 0, _ => []
  | _ + 1, .nil => []
  | n + 1, .node p i l r => (p, i) :: LT.dr n (LT.meld l r).1

theorem dr_perm : ∀ (n : Nat) (t : LT), t.sz ≤ n → (t.dr n).Perm t.els
  | 0, .nil, _ => .refl _
  | 0, .node p i l r, h => by simp [LT.sz] at h
  | n + 1, .nil, _ => .refl _
  | n + 1, .node p i l r, h => by
    simp only [LT.sz] at h
    exact ((dr_perm n (LT.meld l r).1 (by rw [meldSz]; omega)).trans (meld_perm l r)).cons _
theorem dr_mem : ∀ (n : Nat) (t : LT) (x : El), x ∈ t.dr n → x ∈ t.els
  | 0, _, x, h => by simp [LT.dr] at h
  | n + 1, .nil, x, h => by simp [LT.dr] at h
  | n + 1, .node p i l r, x, h => by
    rcases List.mem_cons.1 h with rfl | h
    · exact List.mem_cons_self ..
    · exact List.mem_cons_of_mem _ ((meld_perm l r).subset (dr_mem n _ x h))
theorem dr_srt : ∀ (n : Nat) (t : LT), t.hp → Srt (t.dr n)
  | 0, _, _ => .nil
  | n + 1, .nil, _ => .nil
  | n + 1, .node p i l r, h => by
    refine List.pairwise_cons.2 ⟨fun x hx => ?_, dr_srt n _ (meld_hp l r h.2.1 h.2.2)⟩
    exact h.1 x ((meld_perm l r).subset (dr_mem n _ x hx))
theorem dr_eq (n : Nat) (t : LT) (h : t.hp) (hn : t.sz ≤ n) : t.dr n = sortL t.els := sort_eq (dr_srt n t h) (dr_perm n t hn)

/-- Elements put in one by one. -/
def ofT (l : List El) : LT := l.foldl (fun t x => (t.ins x.1 x.2).1) .nil

theorem foldIns_hp : ∀ (l : List El) (t : LT), t.hp → (l.foldl (fun t x => (t.ins x.1 x.2).1) t).hp
  | [], _, h => h
  | x :: l, t, h => foldIns_hp l _ (ins_hp t x.1 x.2 h)
theorem foldIns_perm : ∀ (l : List El) (t : LT), (l.foldl (fun t x => (t.ins x.1 x.2).1) t).els.Perm (l ++ t.els)
  | [], _ => .refl _
  | x :: l, t => by
    refine (foldIns_perm l _).trans ?_
    exact ((ins_perm t x.1 x.2).append_left l).trans List.perm_middle
theorem ofT_hp (l : List El) : (ofT l).hp := foldIns_hp l .nil trivial
theorem ofT_perm (l : List El) : (ofT l).els.Perm l := by
  have := foldIns_perm l .nil
  simpa [LT.els, ofT] using this
theorem ofT_sz (l : List El) : (ofT l).sz = l.length := by rw [← els_len, (ofT_perm l).length_eq]

end Go.Proofs.YtgbcjpdhmjikgaaDoor
