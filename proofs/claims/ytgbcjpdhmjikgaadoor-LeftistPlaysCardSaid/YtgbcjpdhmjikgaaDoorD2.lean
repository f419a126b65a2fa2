/- A heap that has just such elements; what the laws' walks need of it. -/
import Derived.Test.YtgbcjpdhmjikgaaDoorA1
import Derived.Test.YtgbcjpdhmjikgaaDoorS1
import Derived.Test.YtgbcjpdhmjikgaaDoorD1
namespace Go.Proofs.YtgbcjpdhmjikgaaDoor
set_option linter.unusedVariables false

structure Is (t : LT) (l : List El) : Prop where
  hp : t.hp
  perm : t.els.Perm l

theorem Is.sz {t : LT} {l : List El} (h : Is t l) : t.sz = l.length := by rw [← els_len, h.perm.length_eq]
theorem Is.sort {t : LT} {l : List El} (h : Is t l) : sortL t.els = sortL l := sort_perm h.perm
theorem Is.of (l : List El) : Is (ofT l) l := ⟨ofT_hp l, ofT_perm l⟩
theorem Is.meld {a b : LT} {l k : List El} (h : Is a l) (g : Is b k) : Is (LT.meld a b).1 (l ++ k) := ⟨meld_hp _ _ h.hp g.hp, (meld_perm a b).trans (h.perm.append g.perm)⟩
theorem Is.ins {t : LT} {l : List El} (h : Is t l) (p i : Int) : Is (t.ins p i).1 ((p, i) :: l) := ⟨ins_hp t p i h.hp, (ins_perm t p i).trans (h.perm.cons _)⟩
theorem Is.nil : Is .nil [] := ⟨trivial, .refl _⟩
theorem Is.to {t : LT} {l k : List El} (h : Is t l) (e : l.Perm k) : Is t k := ⟨h.hp, h.perm.trans e⟩
theorem Is.ok {t : LT} {l : List El} (h : Is t l) (w : ∀ x ∈ l, inE x) : t.ok := ok_els.2 fun x hx => w x (h.perm.subset hx)
theorem pop_hp (t : LT) (h : t.hp) : t.pop.1.hp := by
  cases t with
  | nil => trivial
  | node p i l r => exact meld_hp _ _ h.2.1 h.2.2
theorem some_iff (t : LT) : t.some? = decide (0 < t.sz) := by
  cases t with
  | nil => rfl
  | node p i l r => exact (decide_eq_true (by simp only [LT.sz]; omega)).symm
/-- In order: the root ahead, what is left behind it. -/
theorem Is.hd {t : LT} {l : List El} (h : Is t l) (hs : t.some? = true) : sortL l = t.hd :: sortL t.pop.1.els ∧ Is t.pop.1 (sortL l).tail := by
  cases t with
  | nil => cases hs
  | node p i a b =>
    have hi : Is (LT.meld a b).1 (a.els ++ b.els) := Is.meld ⟨h.hp.2.1, .refl _⟩ ⟨h.hp.2.2, .refl _⟩
    have e : sortL l = (p, i) :: sortL (LT.meld a b).1.els := by
      refine (sort_eq (List.pairwise_cons.2 ⟨fun x hx => ?_, sortL_srt _⟩) ?_).symm
      · exact h.hp.1 x (hi.perm.subset ((sortL_perm _).subset hx))
      · exact (((sortL_perm _).trans hi.perm).cons _).trans h.perm
    refine ⟨e, hi.hp, ?_⟩
    show (LT.meld a b).1.els.Perm _
    rw [e]
    exact (sortL_perm _).symm
theorem Is.none {t : LT} {l : List El} (h : Is t l) (hs : t.some? = false) : t = .nil ∧ l = [] := by
  cases t with
  | nil => exact ⟨rfl, List.nil_perm.1 h.perm⟩
  | node p i a b => cases hs

theorem drI_ok {t : LT} {l : List El} (h : Is t l) (s : List El) (e : l.Perm s) (n : Int) (h0 : 0 ≤ n) (hn : n ≤ 100000) (hs : (l.length : Int) ≤ n) (gl : Nat → Int × Int) : PCalls Tryd.prog 18 [.pv (.agg [t.pt]), .pv (.int .i64 n)] gl fun r gl' => r = .fresh ((sortL s).map eC) ∧ gl' = gl :=
  drainN_ok t n (sortL s) (sort_perm (h.perm.trans e)) h0 hn h.hp (by rw [h.sz]; exact hs) gl

/-- A byte's rest. -/
theorem u8_mod (n : Int) (k : Int) (h : 0 ≤ n) : n.tmod k = n % k := Int.tmod_eq_emod_of_nonneg h

end Go.Proofs.YtgbcjpdhmjikgaaDoor
