/- A number as a text, at base 10: the shelf's contract, as ours. -/
import Derived.Test.YtbekdlgkoleblaaDoorM2
import Derived.Test.YtbekdlgkoleblaaDoorShelf
namespace Go.Proofs.YtbekdlgkoleblaaDoor

theorem formatInt_ok (n : Int) (h0 : -9223372036854775808 ≤ n) (h1 : n ≤ 9223372036854775807) (gl : Nat → Int × Int) : PCalls Tryd.prog 54 [.pv (.int .i64 n), .pv (.int .i64 10)] gl fun r gl' => r = .pv (.str (Lib.itoa n)) ∧ gl' = gl := by
  intro im mt w vs hg hsz ha
  have e0 := srel_int (ha 0 (by simp) (by simp at hsz; omega))
  have e1 := srel_int (ha 1 (by simp) (by simp at hsz; omega))
  have hvs := args_two' (vs := vs) (by simpa using hsz)
  rw [hvs, e0, e1]
  refine (Tryd.strconv_FormatInt_10 n h0 h1 w hg.tab.1).mono fun e w' ⟨he, k, os, hw⟩ => ?_
  subst hw
  have hold : ∀ b, b < w.heap.size → (Sort.grow (w.drewN k) os).heap[b]? = w.heap[b]? := by
    intro b hb
    show (w.heap ++ os)[b]? = w.heap[b]?
    exact Array.getElem?_append_left hb
  have hsize : (Sort.grow (w.drewN k) os).heap.size = w.heap.size + os.size := by
    show (w.heap ++ os).size = _
    simp
  refine ⟨_, .pv (.str (Lib.itoa n)), gl, im, he, ⟨rfl, rfl⟩, .pv (.str _ _ rfl), ⟨rfl, rfl, rfl, ?_, fun _ _ => rfl, fun b hb _ => hold b hb⟩, ⟨fun b hb => hg.imz b ?_, fun j b hj => ?_, hg.inj, hg.bnd, hg.tab.keep fun b hb _ => hold b hb⟩⟩
  · omega
  · omega
  · obtain ⟨⟨t, ht⟩, hi⟩ := hg.mts j b hj
    exact ⟨⟨t, (hold b (heap_lt ht)).trans ht⟩, hi⟩

/-- An element, as a text. -/
def txt (p i : Int) : List UInt8 := Lib.itoa p ++ 58 :: Lib.itoa i

theorem decDigits_len : ∀ (k : Nat) (u : Nat), u < 10 ^ (k + 1) → (Lib.decDigits u).length ≤ k + 1
  | 0, u, h => by
    unfold Lib.decDigits
    rw [dif_pos (by omega)]; simp
  | k + 1, u, h => by
    unfold Lib.decDigits
    split
    · simp
    · have := decDigits_len k (u / 10) (by rw [Nat.pow_succ] at h; omega)
      simp; omega
theorem itoa_len (n : Int) (h0 : -9223372036854775808 ≤ n) (h1 : n ≤ 9223372036854775807) : (Lib.itoa n).length ≤ 21 := by
  unfold Lib.itoa
  split
  · have := decDigits_len 19 n.natAbs (by omega)
    simp; omega
  · have := decDigits_len 19 n.toNat (by omega)
    omega

theorem text_ok (p i : Int) (hp : -9223372036854775808 ≤ p ∧ p ≤ 9223372036854775807) (hi : -9223372036854775808 ≤ i ∧ i ≤ 9223372036854775807) (gl : Nat → Int × Int) : PCalls Tryd.prog 44 [.pv (eP p i)] gl fun r gl' => r = .pv (.str (txt p i)) ∧ gl' = gl := by
  refine pcalls_of_pwp noImm Tryd.func44 rfl (by simp) mixed (by kernel_rfl) fun gn => ?_
  have h1 := itoa_len p hp.1 hp.2
  have h2 := itoa_len i hi.1 hi.2
  simp [eP]
  refine (formatInt_ok p hp.1 hp.2 _).use ?_
  simp
  refine ⟨by omega, ?_⟩
  refine (formatInt_ok i hi.1 hi.2 _).use ?_
  simp [txt]
  omega

end Go.Proofs.YtbekdlgkoleblaaDoor
