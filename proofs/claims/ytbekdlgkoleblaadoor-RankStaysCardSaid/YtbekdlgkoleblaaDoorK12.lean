/- A row's copy; what stands beside a root; the trees below it. -/
import Derived.Test.YtbekdlgkoleblaaDoorK11
import Derived.WalkKit
import Derived.Laws.ByValue
namespace Go.Proofs.YtbekdlgkoleblaaDoor
open Go.RowKit
set_option linter.unusedSimpArgs false
set_option linter.unusedVariables false

theorem cloneE_cons (y : El) (l : List El) (hl : l.length ≤ 1000000) (gl : Nat → Int × Int) : PCalls Tryd.prog 41 [.pv (.list ((y :: l).map eC))] gl fun r gl' => r = .fresh ((y :: l).map eC) ∧ gl' = gl := by
  have w := wide2 (y :: l)
  rw [List.map_cons] at w
  have w0 : Wide 2 [] := fun _ h => by cases h
  refine pcalls_of_pwp noImm Tryd.func41 rfl (by simp) mixed (by kernel_rfl) fun gn => ?_
  simp [w, w0]
  exact ⟨by omega, by omega⟩

theorem cloneT_cons (y : RT) (l : List RT) (hl : l.length ≤ 1000000) (gl : Nat → Int × Int) : PCalls Tryd.prog 46 [.pv (.list ((y :: l).map fun k => [k.pt]))] gl fun r gl' => r = .fresh ((y :: l).map fun k => [k.pt]) ∧ gl' = gl := by
  have w := wideK (y :: l)
  rw [List.map_cons] at w
  have w0 : Wide 1 [] := fun _ h => by cases h
  refine pcalls_of_pwp noImm Tryd.func46 rfl (by simp) mixed (by kernel_rfl) fun gn => ?_
  simp [w, w0]
  exact ⟨by omega, by omega⟩

theorem clone_empty {P : Program} {f : FuncId} {t : TypeId} (rawNil : ∀ w, Calls P f #[.slice none 0 0] w fun e w' => e = .returned (.slice none 0 0) ∧ w' = w)
    (raw : ∀ (a : Addr) (cap : Nat) (w : World), Calls P f #[.slice (some a) 0 cap] w fun e w' => e = .returned (.slice (some ⟨w.heap.size, 0, none⟩) 0 0) ∧ w' = w.alloc (.cells #[] t)) (gl : Nat → Int × Int) :
    PCalls P f [.pv (.list [])] gl fun r gl' => r = .fresh [] ∧ gl' = gl := by
  intro im mt w vs hg hsz ha
  have h0 := ha 0 (by simp) (by simp at hsz; omega)
  have hvs := args_one (vs := vs) (by simpa using hsz)
  generalize vs[0]'(by simp at hsz; omega) = v at h0 hvs
  subst hvs
  cases h0 with
  | pv h =>
    obtain ⟨ad, cap, e, _⟩ := rep_list h
    simp only [List.length_nil] at e
    subst e
    cases ad with
    | none =>
      have hcap : cap = 0 := by cases h; rfl
      subst hcap
      refine (rawNil w).mono ?_
      rintro e w' ⟨rfl, rfl⟩
      exact ⟨_, .fresh [], gl, im, rfl, ⟨rfl, rfl⟩, .freshFull .nil, ⟨rfl, rfl, rfl, Nat.le_refl _, fun _ _ => rfl, fun _ _ _ => rfl⟩, hg⟩
    | some a =>
      refine (raw a cap w).mono ?_
      rintro e w' ⟨rfl, rfl⟩
      have halloc : ∀ b, b < w.heap.size → (w.alloc (.cells #[] t)).heap[b]? = w.heap[b]? := fun b hb => World.heap_alloc_lt w _ b hb
      have hasz : (w.alloc (.cells #[] t)).heap.size = w.heap.size + 1 := by simp
      exact ⟨_, .fresh [], gl, im, rfl, ⟨rfl, rfl⟩, .freshFull (.empty _ _), ⟨rfl, rfl, rfl, by rw [hasz]; omega, fun _ _ => rfl, fun b hb _ => halloc b hb⟩,
        ⟨fun b hb => hg.imz b (by rw [hasz] at hb; omega), fun k b hk => by
          obtain ⟨⟨t, ht⟩, him⟩ := hg.mts k b hk
          exact ⟨⟨t, (halloc b (heap_lt ht)).trans ht⟩, him⟩, hg.inj, hg.bnd, hg.tab.keep fun b hb _ => halloc b hb⟩⟩

set_option maxRecDepth 10000 in
theorem cloneE_nil (gl : Nat → Int × Int) : PCalls Tryd.prog 41 [.pv (.list [])] gl fun r gl' => r = .fresh [] ∧ gl' = gl := by
  refine clone_empty (t := 29) (fun w => ?_) (fun a cap w => ?_) gl
  · have hcmp : ∀ w : World, (binOp .eql 22 (.slice none 0 0) (.slice none 0 0)).run Tryd.prog w = .ok (.bool true) w := fun w => Lib.run_eql_slice_nil w 22 29 none 0 0 0 0 (by kernel_rfl)
    go_enter Tryd.func41, Tryd.ntmps41
    go_wp2
    go_ret
    exact ⟨rfl, rfl⟩
  · have hcmp : ∀ w : World, (binOp .eql 22 (.slice (some a) 0 cap) (.slice none 0 0)).run Tryd.prog w = .ok (.bool false) w := fun w => Lib.run_eql_slice_nil w 22 29 (some a) 0 cap 0 0 (by kernel_rfl)
    go_enter Tryd.func41, Tryd.ntmps41
    go_wp2
    go_ret
    exact ⟨rfl, rfl⟩

set_option maxRecDepth 10000 in
theorem cloneT_nil (gl : Nat → Int × Int) : PCalls Tryd.prog 46 [.pv (.list [])] gl fun r gl' => r = .fresh [] ∧ gl' = gl := by
  refine clone_empty (t := 26) (fun w => ?_) (fun a cap w => ?_) gl
  · have hcmp : ∀ w : World, (binOp .eql 25 (.slice none 0 0) (.slice none 0 0)).run Tryd.prog w = .ok (.bool true) w := fun w => Lib.run_eql_slice_nil w 25 26 none 0 0 0 0 (by kernel_rfl)
    go_enter Tryd.func46, Tryd.ntmps46
    go_wp2
    go_ret
    exact ⟨rfl, rfl⟩
  · have hcmp : ∀ w : World, (binOp .eql 25 (.slice (some a) 0 cap) (.slice none 0 0)).run Tryd.prog w = .ok (.bool false) w := fun w => Lib.run_eql_slice_nil w 25 26 (some a) 0 cap 0 0 (by kernel_rfl)
    go_enter Tryd.func46, Tryd.ntmps46
    go_wp2
    go_ret
    exact ⟨rfl, rfl⟩

theorem cloneE_ok (l : List El) (hl : l.length ≤ 1000000) (gl : Nat → Int × Int) : PCalls Tryd.prog 41 [.pv (.list (l.map eC))] gl fun r gl' => r = .fresh (l.map eC) ∧ gl' = gl := by
  cases l with
  | nil => exact cloneE_nil gl
  | cons y l => exact cloneE_cons y l (by simp at hl; omega) gl
theorem cloneT_ok (l : List RT) (hl : l.length ≤ 1000000) (gl : Nat → Int × Int) : PCalls Tryd.prog 46 [.pv (.list (l.map fun k => [k.pt]))] gl fun r gl' => r = .fresh (l.map fun k => [k.pt]) ∧ gl' = gl := by
  cases l with
  | nil => exact cloneT_nil gl
  | cons y l => exact cloneT_cons y l (by simp at hl; omega) gl

def oBeside : Option RT → List El
  | none => []
  | some t => t.beside
def oKids : Option RT → List RT
  | none => []
  | some t => t.kids
theorem rBeside_ok (t : Option RT) (h : ∀ u, t = some u → u.sz ≤ 1000000) (gl : Nat → Int × Int) : PCalls Tryd.prog 20 [.pv (oP t)] gl fun r gl' => r = .fresh ((oBeside t).map eC) ∧ gl' = gl := by
  refine pcalls_of_pwp noImm Tryd.func20 rfl (by simp) mixed (by kernel_rfl) fun gn => ?_
  cases t with
  | none => simp [oP, oBeside]
  | some t =>
    have hz := sz_eq t
    have h1 := h t rfl
    simp [oP, oBeside, pt_eq t]
    refine (cloneE_ok t.beside (by omega) _).use ?_
    simp
theorem rKids_ok (t : Option RT) (h : ∀ u, t = some u → u.sz ≤ 1000000) (gl : Nat → Int × Int) : PCalls Tryd.prog 31 [.pv (oP t)] gl fun r gl' => r = .fresh ((oKids t).map fun k => [k.pt]) ∧ gl' = gl := by
  refine pcalls_of_pwp noImm Tryd.func31 rfl (by simp) mixed (by kernel_rfl) fun gn => ?_
  cases t with
  | none => simp [oP, oKids]
  | some t =>
    have hz := sz_eq t
    have h1 := h t rfl
    have hkl := szL_len t.kids
    have hpt := ptL_map t.kids
    simp [oP, oKids, pt_eq t, hpt]
    refine (cloneT_ok t.kids (by omega) _).use ?_
    simp
end Go.Proofs.YtbekdlgkoleblaaDoor
