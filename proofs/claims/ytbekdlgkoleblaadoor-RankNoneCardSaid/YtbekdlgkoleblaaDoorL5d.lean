/- RankNone. -/
import Derived.Test.YtbekdlgkoleblaaDoorL5b
import Derived.LaidEqlPtr
namespace Go.Proofs.YtbekdlgkoleblaaDoor
open Go.RowKit
set_option linter.unusedSimpArgs false
set_option linter.unusedVariables false

/-- What a call answers lies somewhere. -/
theorem PCalls.known {P : Program} {f : FuncId} {args : List SV} {gl gl0 : Nat → Int × Int} {cells : List PV} (h : PCalls P f args gl fun r gl' => r = .pv (.ref cells 0) ∧ gl' = gl0) :
    PCalls P f args gl fun r gl' => ∃ b o, r = .pv (.refAt b o cells 0) ∧ gl' = gl0 := by
  intro im mt w vs hg hs ha
  refine (h im mt w vs hg hs ha).mono ?_
  rintro e w' ⟨v, r, gl', im', he, ⟨rfl, rfl⟩, hr, hx, hg'⟩
  cases hr with
  | pv hp =>
    obtain ⟨b, o, rfl⟩ := rep_ref hp
    exact ⟨_, .pv (.refAt b o cells 0), gl', im', he, ⟨b, o, rfl, rfl⟩, .pv (.refAt b o 0 cells hp), hx, hg'⟩

/-- Where it lies may be forgotten. -/
theorem PCalls.anywhere {P : Program} {f : FuncId} {pre post : List SV} {gl : Nat → Int × Int} {Q : RV → (Nat → Int × Int) → Prop} (b o : Nat) {cells : List PV} {off : Nat} (h : PCalls P f (pre ++ .pv (.ref cells off) :: post) gl Q) :
    PCalls P f (pre ++ .pv (.refAt b o cells off) :: post) gl Q := by
  intro im mt w vs hg hs ha
  refine h im mt w vs hg (by simpa using hs) fun i hi hi' => ?_
  have h1 := ha i (by simpa using hi) hi'
  rcases Nat.lt_trichotomy i pre.length with hlt | heq | hgt
  · rw [List.getElem_append_left hlt] at h1 ⊢; exact h1
  · subst heq
    rw [List.getElem_append_right (Nat.le_refl _)] at h1 ⊢
    simp only [Nat.sub_self, List.getElem_cons_zero] at h1 ⊢
    generalize vs[pre.length]'hi' = v at h1 ⊢
    cases h1 with
    | pv hp => cases hp with | refAt b o off cells hp => exact .pv hp
  · obtain ⟨j, rfl⟩ : ∃ j, i = pre.length + (j + 1) := ⟨i - pre.length - 1, by omega⟩
    rw [List.getElem_append_right (by omega)] at h1 ⊢
    simp only [Nat.add_sub_cancel_left, List.getElem_cons_succ] at h1 ⊢
    exact h1

theorem ptrSame : PtrSame Tryd.prog 26 := by
  intro w b o
  obtain ⟨j, hj, _⟩ : ∃ j, (Tryd.prog).info? 64 = some j ∧ true = true := by
    have h : ((Tryd.prog).info? 64).map (fun _ => true) = some true := by kernel_rfl
    obtain ⟨j, h1, _⟩ := Option.map_eq_some_iff.1 h
    exact ⟨j, h1, rfl⟩
  exact run_eql_ptr_same w _ Tryd.underlying26 hj

/-- Linked with none it is that. -/
theorem linkL (m : Option Nat) (b o : Nat) (cells : List PV) (off : Nat) (gl : Nat → Int × Int) : PCalls Tryd.prog 11 [mv m, .pv .nilp, .pv (.refAt b o cells off)] gl fun r gl' => r = .pv (.refAt b o cells off) ∧ gl' = gl := by
  refine pcalls_of_pwp noImm Tryd.func11 rfl (by simp) mixed (by kernel_rfl) fun gn => ?_
  simp

set_option maxRecDepth 10000 in
theorem linkR_raw (mq : Value) (ad : Addr) (w : World) : Calls Tryd.prog 11 #[mq, .pointer (some ad), .pointer none] w fun e w' => e = .returned (.pointer (some ad)) ∧ w' = w := by
  go_enter Tryd.func11, Tryd.ntmps11
  go_wp2
  go_ret
  exact ⟨rfl, rfl⟩

theorem linkR (m : Option Nat) (b o : Nat) (cells : List PV) (off : Nat) (gl : Nat → Int × Int) : PCalls Tryd.prog 11 [mv m, .pv (.refAt b o cells off), .pv .nilp] gl fun r gl' => r = .pv (.refAt b o cells off) ∧ gl' = gl := by
  intro im mt w vs hg hs ha
  have h1 := ha 1 (by simp) (by simp at hs; omega)
  have h2 := ha 2 (by simp) (by simp at hs; omega)
  obtain ⟨x, y, z, rfl⟩ : ∃ x y z, vs = #[x, y, z] := by
    have h3 : vs.size = 3 := by simpa using hs
    exact ⟨vs[0], vs[1], vs[2], by
      apply Array.ext
      · simp [h3]
      · intro i hi hi'
        have : i < 3 := by omega
        match i, this with
        | 0, _ => rfl
        | 1, _ => rfl
        | 2, _ => rfl⟩
  have h1' : SRel ⟨im, mt, fun _ => none, fun _ => none⟩ w y (.pv (.refAt b o cells off)) := h1
  have h2' : SRel ⟨im, mt, fun _ => none, fun _ => none⟩ w z (.pv .nilp) := h2
  cases h2' with
  | pv hz =>
    obtain rfl := rep_nilp hz
    cases h1' with
    | pv hy =>
      have hy' := hy
      cases hy with
      | refAt b o off cells hp =>
        refine (linkR_raw x _ w).mono ?_
        rintro e w' ⟨rfl, rfl⟩
        exact ⟨_, .pv (.refAt b o cells off), gl, im, rfl, ⟨rfl, rfl⟩, .pv hy', ⟨rfl, rfl, rfl, Nat.le_refl _, fun _ _ => rfl, fun _ _ _ => rfl⟩, hg⟩
end Go.Proofs.YtbekdlgkoleblaaDoor
