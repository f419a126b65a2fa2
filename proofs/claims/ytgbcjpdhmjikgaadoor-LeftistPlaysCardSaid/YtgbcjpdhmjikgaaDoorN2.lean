/- A heap as a text. -/
import Derived.Test.YtgbcjpdhmjikgaaDoorN1
namespace Go.Proofs.YtgbcjpdhmjikgaaDoor

def inI (n : Int) : Prop := -9223372036854775808 ≤ n ∧ n ≤ 9223372036854775807

/-- Its elements are numbers of 64 bits. -/
def LT.ok : LT → Prop
  | .nil => True
  | .node p i l r => inI p ∧ inI i ∧ l.ok ∧ r.ok

def LT.text : LT → List UInt8
  | .nil => [46]
  | .node p i l r => 40 :: (txt p i ++ 32 :: (l.text ++ 32 :: (r.text ++ [41])))

theorem txt_len (p i : Int) (hp : inI p) (hi : inI i) : (txt p i).length ≤ 43 := by
  have h1 := itoa_len p hp.1 hp.2
  have h2 := itoa_len i hi.1 hi.2
  simp [txt]; omega

theorem text_len : ∀ (t : LT), t.ok → t.text.length ≤ 50 * t.sz + 1
  | .nil, _ => by simp [LT.text]
  | .node p i l r, h => by
    have h1 := text_len l h.2.2.1
    have h2 := text_len r h.2.2.2
    have h3 := txt_len p i h.1 h.2.1
    simp [LT.text, LT.sz]; omega

theorem show_ok : ∀ (t : LT) (gl : Nat → Int × Int), t.ok → t.sz ≤ 1000000 → PCalls Tryd.prog 27 [.pv t.pv] gl fun r gl' => r = .pv (.str t.text) ∧ gl' = gl
  | .nil, gl, _, _ => by
    refine pcalls_of_pwp noImm Tryd.func27 rfl (by simp) mixed (by kernel_rfl) fun gn => ?_
    simp [LT.pv, LT.pt, LT.text]
  | .node p i l r, gl, h, hs => by
    have h1 := text_len l h.2.2.1
    have h2 := text_len r h.2.2.2
    have h3 := txt_len p i h.1 h.2.1
    simp only [LT.sz] at hs
    refine pcalls_of_pwp noImm Tryd.func27 rfl (by simp) mixed (by kernel_rfl) fun gn => ?_
    simp [LT.pv, LT.pt]
    refine (text_ok p i h.1 h.2.1 _).use ?_
    simp
    refine ⟨by omega, by omega, ?_⟩
    refine (show_ok l _ h.2.2.1 (by omega)).use ?_
    simp
    refine ⟨by omega, by omega, ?_⟩
    refine (show_ok r _ h.2.2.2 (by omega)).use ?_
    simp [LT.text]
    omega

end Go.Proofs.YtgbcjpdhmjikgaaDoor
