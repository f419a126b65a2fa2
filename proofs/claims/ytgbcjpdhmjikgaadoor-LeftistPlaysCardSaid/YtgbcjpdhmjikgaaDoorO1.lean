/- leftist.Of: its closure, its loop. -/
import Derived.Test.YtgbcjpdhmjikgaaDoorN2
import Derived.WalkKit
import Derived.Laws.ByValue
namespace Go.Proofs.YtgbcjpdhmjikgaaDoor
open Go.RowKit

theorem LT.pt_scalar (t : LT) : t.pt.scalar = true := by cases t <;> rfl

theorem LT.ptr {I : Nat → Nat} {w : World} {v : Value} (t : LT) (h : Rep I w v t.pt) : ∃ q, v = .pointer q := by
  cases t with
  | nil => exact ⟨_, rep_nilp h⟩
  | node p i l r => obtain ⟨b, o, e⟩ := rep_ref h; exact ⟨_, e⟩

/-- What a call of 'put' does: the heap in the box 'out' has an element more. -/
theorem of1_raw (m : Option Nat) (t : LT) (p i : Int) (hsz : t.sz < 1000000) (gl : Nat → Int × Int) (im : Nat → Nat) (mt : Nat → Option Nat) (w : World) (b5 b2 : Nat) (t5 t2 : TypeId) (tv mval : Value)
    (hg : Glob im mt gl w) (h5 : w.heap[b5]? = some (.cells #[tv] t5 (0, 0))) (hr : Rep im w tv t.pt) (h2 : w.heap[b2]? = some (.cells #[mval] t2 (0, 0))) (hm : SRel ⟨im, mt, fun _ => none, fun _ => none⟩ w mval (mv m))
    (hm5 : ∀ k, mt k ≠ some b5) (hi5 : im b5 = 0) (htab5 : tabN ≤ b5) :
    Calls Tryd.prog 38 #[.agg #[.int .i64 p, .int .i64 i], .pointer (some ⟨b5, 0, none⟩), .pointer (some ⟨b2, 0, none⟩)] w fun e w' => ∃ v im' tv', e = .returned v ∧ w'.heap[b5]? = some (.cells #[tv'] t5 (0, 0)) ∧ Rep im' w' tv' (t.ins p i).1.pt ∧
      Glob im' mt (tick m (t.ins p i).2 ((t.ins p i).2 + 1) gl) w' ∧ w'.os = w.os ∧ w'.tape = w.tape ∧ w'.output = w.output ∧ w.heap.size ≤ w'.heap.size ∧ (∀ b, b < w.heap.size → im' b = im b) ∧ (∀ b, b < w.heap.size → b ≠ b5 → (∀ k, mt k ≠ some b) → w'.heap[b]? = w.heap[b]?) := by
  have hins := fun gl => insert_ok m t p i hsz gl
  have lt5 := heap_lt h5
  have lt2 := heap_lt h2
  have c5 : ∀ o, (w.alloc o).cell? ⟨b5, 0, none⟩ = some tv := fun o => by
    have : (w.alloc o).heap[b5]? = w.heap[b5]? := World.heap_alloc_lt w _ b5 lt5
    simp [World.cell?, this, h5]
  have c2 : ∀ o, (w.alloc o).cell? ⟨b2, 0, none⟩ = some mval := fun o => by
    have : (w.alloc o).heap[b2]? = w.heap[b2]? := World.heap_alloc_lt w _ b2 lt2
    simp [World.cell?, this, h2]
  have halloc : ∀ (o : Obj) (b : Nat), b < w.heap.size → (w.alloc o).heap[b]? = w.heap[b]? := fun o b hb => World.heap_alloc_lt w _ b hb
  have hasz : ∀ o : Obj, (w.alloc o).heap.size = w.heap.size + 1 := fun o => by simp
  have hk : ∀ o : Obj, Keeps im w im (w.alloc o) := fun o => ⟨fun _ => Nat.le_refl _, fun b o' ho => by
    have hb : b < w.heap.size := by
      rcases Nat.lt_or_ge b w.heap.size with h | h
      · exact h
      · rw [hg.imz b h] at ho; omega
    exact World.cell?_of_block (w := w) (halloc o b hb)⟩
  have hga : ∀ o : Obj, Glob im mt gl (w.alloc o) := fun o => ⟨fun b hb => hg.imz b (by rw [hasz] at hb; omega), fun k b hk => by
    obtain ⟨⟨t, ht⟩, him⟩ := hg.mts k b hk
    exact ⟨⟨t, (halloc o b (heap_lt ht)).trans ht⟩, him⟩, hg.inj, hg.bnd, hg.tab.keep fun b hb _ => halloc o b hb⟩
  have hc : ∀ o : Obj, Calls Tryd.prog 24 #[.agg #[tv], mval, .agg #[.int .i64 p, .int .i64 i]] (w.alloc o) fun e w' => ∃ tv' im', e = .returned (.agg #[tv']) ∧ Rep im' w' tv' (t.ins p i).1.pt ∧ Ext im mt (w.alloc o) im' w' ∧ Glob im' mt (tick m (t.ins p i).2 ((t.ins p i).2 + 1) gl) w' := by
    intro o
    refine (hins gl im mt (w.alloc o) #[.agg #[tv], mval, .agg #[.int .i64 p, .int .i64 i]] (hga o) rfl ?_).mono ?_
    · intro i h h'
      match i, h with
      | 0, _ =>
        exact .pv (.agg _ _ (by simp [LT.pt_scalar]) rfl fun i h h' => by
          obtain rfl : i = 0 := by simp at h; omega
          exact hr.keeps (hk o))
      | 1, _ => exact hm.mono (hk o) (fun _ _ h => h) (fun _ _ h => h) (fun _ _ h => h) fun _ _ h => by cases h
      | 2, _ => exact .pv (.agg _ _ (by simp [PV.scalar]) rfl fun i h h' => by
          match i, h with
          | 0, _ => exact .int _ _
          | 1, _ => exact .int _ _)
    · rintro e w' ⟨v, r, gl', im', he, ⟨hr', hgl⟩, hrr, hext, hg'⟩
      subst hr'; subst hgl
      cases hrr with
      | pv hp =>
        obtain ⟨cs, rfl, hcs, -, hc⟩ := rep_agg (c := [(t.ins p i).1.pt]) hp
        have h1 : cs.size = 1 := by simpa using hcs
        have hcs' := args_one h1
        refine ⟨cs[0]'(by omega), im', ?_, hc 0 (by simp) (by omega), hext, hg'⟩
        rw [he, ← hcs']
  go_enter Tryd.func38, Tryd.ntmps38
  have hst : ∀ w'' im', Ext im mt (w.alloc (.cells #[.int .i64 p, .int .i64 i] 41)) im' w'' → w''.cell? ⟨b5, 0, none⟩ = some tv ∧ w''.frozen? ⟨b5, 0, none⟩ = false ∧ w''.heap[b5]? = some (.cells #[tv] t5 (0, 0)) := fun w'' im' hext => by
    have h5'' : w''.heap[b5]? = some (.cells #[tv] t5 (0, 0)) := (hext.blk b5 (by rw [hasz]; omega) hm5).trans ((halloc _ b5 lt5).trans h5)
    exact ⟨by simp [World.cell?, h5''], by simp [World.frozen?, h5''], h5''⟩
  go_wp2_with (go_at_call 24; refine (hc _).mono ?_; rintro e w'' ⟨tv', im', rfl, hr', hext, hg'⟩; obtain ⟨q, rfl⟩ := LT.ptr _ hr'; obtain ⟨c5'', f5'', h5''⟩ := hst _ _ hext)
  go_end0
  have hne : ∀ b, b ≠ b5 → (w''.setCell ⟨b5, 0, none⟩ (.pointer q)).heap[b]? = w''.heap[b]? := fun b hb => heap_setCell_ne hb _
  have hi5' : im' b5 = 0 := (hext.im b5 (by rw [hasz]; omega)).trans hi5
  have hsz' : (w''.setCell ⟨b5, 0, none⟩ (.pointer q)).heap.size = w''.heap.size := by simp [World.setCell]
  have hsw : w.heap.size ≤ w''.heap.size := by have := hext.size; rw [hasz] at this; omega
  refine ⟨_, im', .pointer q, rfl, ?_, hr'.keeps ⟨fun _ => Nat.le_refl _, fun b o ho => ?_⟩, ⟨fun b hb => hg'.imz b (by rw [hsz'] at hb; exact hb), fun k b hk => ?_, hg'.inj, hg'.bnd, ⟨tabHolds_of (fun b hb => hne b (by omega)) hg'.tab.1, hg'.tab.2⟩⟩, hext.os, hext.tape, hext.output, by rw [hsz']; exact hsw, fun b hb => hext.im b (by rw [hasz]; omega), fun b hb hb5 hm => ?_⟩
  · rw [heap_setCell h5'' _]; rfl
  · exact World.cell?_of_block (w := w'') (hne b (fun e => by subst e; omega))
  · obtain ⟨⟨t, ht⟩, hi⟩ := hg'.mts k b hk
    exact ⟨⟨t, (hne b (fun e => hm5 k (by rw [hk, e]))).trans ht⟩, hi⟩
  · rw [hne b hb5]
    exact (hext.blk b (by rw [hasz]; omega) hm).trans (halloc _ b hb)
end Go.Proofs.YtgbcjpdhmjikgaaDoor
