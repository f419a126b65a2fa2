/- The document's numbers, as texts (where no heap is). -/
import Derived.Test.YtbekdlgkoleblaaDoorN1
namespace Go.Proofs.YtbekdlgkoleblaaDoor
set_option linter.unusedSimpArgs false
set_option linter.unusedVariables false

def inI (n : Int) : Prop := -9223372036854775808 ≤ n ∧ n ≤ 9223372036854775807

theorem txt_len (p i : Int) (hp : inI p) (hi : inI i) : (txt p i).length ≤ 43 := by
  have h1 := itoa_len p hp.1 hp.2
  have h2 := itoa_len i hi.1 hi.2
  simp [txt]; omega

theorem dec_small (u : Nat) (h : u < 10) : Lib.decDigits u = [UInt8.ofNat (48 + u)] := by
  rw [Lib.decDigits, dif_pos h]
theorem dec_big (u : Nat) (h : ¬ u < 10) : Lib.decDigits u = Lib.decDigits (u / 10) ++ [UInt8.ofNat (48 + u % 10)] := by
  rw [Lib.decDigits, dif_neg h]

set_option maxHeartbeats 1000000 in
theorem digits_ok : ∀ (u : Nat) (gl : Nat → Int × Int), u ≤ 9223372036854775808 → PCalls Tryd.prog 55 [.pv (.int .i64 (-(u : Int)))] gl fun r gl' => r = .pv (.str (Lib.decDigits u)) ∧ gl' = gl := by
  intro u
  induction u using Nat.strongRecOn with
  | _ u ih =>
    intro gl h
    have ht : (u : Int).tmod 10 = (u : Int) % 10 := Int.tmod_eq_emod_of_nonneg (by omega)
    have h1 : IntKind.i64.wrap (48 + (u : Int) % 10) = 48 + (u : Int) % 10 := wr _ (by omega) (by omega)
    have h2 : IntKind.u8.wrap (48 + (u : Int) % 10) = 48 + (u : Int) % 10 := by
      simp [IntKind.wrap, IntKind.signed, IntKind.bits]; omega
    have h4 : (48 + (u : Int) % 10).toNat = 48 + u % 10 := by omega
    refine pcalls_of_pwp noImm Tryd.func55 rfl (by simp) mixed (by kernel_rfl) fun gn => ?_
    by_cases hb : 10 ≤ u
    · have hc : (-(u : Int)) ≤ -10 := by omega
      have h3 : IntKind.i64.wrap (-((u : Int) / 10)) = -((u : Int) / 10) := wr _ (by omega) (by omega)
      have hl := decDigits_len 19 (u / 10) (by omega)
      have e := dec_big u (by omega)
      have ih' := ih (u / 10) (by omega) gl (by omega)
      rw [show (((u / 10 : Nat)) : Int) = (u : Int) / 10 from rfl] at ih'
      simp [hc, h3]
      refine ih'.use ?_
      simp [ht, h1, h2, h4, e]
      omega
    · have hc : ¬ (-(u : Int)) ≤ -10 := by omega
      have e := dec_small u (by omega)
      have e2 : u % 10 = u := by omega
      simp [hc, ht, h1, h2, h4, e, e2]

theorem number_ok (n : Int) (h0 : -9223372036854775808 ≤ n) (h1 : n ≤ 9223372036854775807) (gl : Nat → Int × Int) : PCalls Tryd.prog 47 [.pv (.int .i64 n)] gl fun r gl' => r = .pv (.str (Lib.itoa n)) ∧ gl' = gl := by
  refine pcalls_of_pwp noImm Tryd.func47 rfl (by simp) mixed (by kernel_rfl) fun gn => ?_
  have hl := decDigits_len 19 n.natAbs (by omega)
  by_cases hn : n < 0
  · have e : n = -(n.natAbs : Int) := by omega
    have D := digits_ok n.natAbs gl (by omega)
    rw [← e] at D
    simp [hn]
    refine D.use ?_
    simp [Lib.itoa, hn]
    omega
  · have e : IntKind.i64.wrap (-n) = -(n.natAbs : Int) := by rw [wr _ (by omega) (by omega)]; omega
    have D := digits_ok n.natAbs gl (by omega)
    rw [← e] at D
    have e2 : n.toNat = n.natAbs := by omega
    simp [hn]
    refine D.use ?_
    simp [Lib.itoa, hn, e2]

theorem refText_ok (p i : Int) (hp : inI p) (hi : inI i) (gl : Nat → Int × Int) : PCalls Tryd.prog 32 [.pv (.agg [.int .i64 p, .int .i64 i])] gl fun r gl' => r = .pv (.str (txt p i)) ∧ gl' = gl := by
  refine pcalls_of_pwp noImm Tryd.func32 rfl (by simp) mixed (by kernel_rfl) fun gn => ?_
  have h1 := itoa_len p hp.1 hp.2
  have h2 := itoa_len i hi.1 hi.2
  simp
  refine (number_ok p hp.1 hp.2 _).use ?_
  simp
  refine ⟨by omega, ?_⟩
  refine (number_ok i hi.1 hi.2 _).use ?_
  simp [txt]
  omega
end Go.Proofs.YtbekdlgkoleblaaDoor
