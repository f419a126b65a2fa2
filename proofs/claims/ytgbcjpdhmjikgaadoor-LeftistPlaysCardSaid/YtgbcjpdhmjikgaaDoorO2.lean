/- leftist.Of: its loop. -/
import Derived.Test.YtgbcjpdhmjikgaaDoorO1
namespace Go.Proofs.YtgbcjpdhmjikgaaDoor
open Go.RowKit

/-- What memory holds at the loop's head: 'w' as it was, three boxes more, and what Insert has made. -/
structure OfI (im : Nat → Nat) (mt : Nat → Option Nat) (w : World) (mq : Option Addr) (T : LT) (G : Nat → Int × Int) (W : World) : Prop where
  b2 : W.heap[w.heap.size]? = some (.cells #[.pointer mq] 36 (0, 0))
  b4 : W.heap[w.heap.size + 1]? = some (.cells #[.pointer none] 26 (0, 0))
  b5 : ∃ tv im', W.heap[w.heap.size + 1 + 1]? = some (.cells #[tv] 26 (0, 0)) ∧ Rep im' W tv T.pt ∧ Glob im' mt G W ∧ (∀ b, b < w.heap.size → im' b = im b) ∧ im' (w.heap.size + 1 + 1) = 0 ∧ im' (w.heap.size + 1) = 0
  os : W.os = w.os
  tape : W.tape = w.tape
  output : W.output = w.output
  size : w.heap.size + 3 ≤ W.heap.size
  blk : ∀ b, b < w.heap.size → (∀ k, mt k ≠ some b) → W.heap[b]? = w.heap[b]?

theorem slice_at {I : Nat → Nat} {w : World} {b o n cap : Nat} {xs : List (Int × Int)} (h : Rep I w (.slice (some ⟨b, o, none⟩) n cap) (.list (xs.map fun x => [.int .i64 x.1, .int .i64 x.2]))) (k : Nat) (hk : k < xs.length) :
    0 < I b ∧ w.cell? ⟨b, o + k * 2, none⟩ = some (.int .i64 xs[k].1) ∧ w.cell? ⟨b, o + k * 2 + 1, none⟩ = some (.int .i64 xs[k].2) := by
  generalize hq : xs.map (fun x => [PV.int .i64 x.1, .int .i64 x.2]) = ys at h
  cases h with
  | empty => rw [List.map_eq_nil_iff] at hq; subst hq; simp at hk
  | list b o cap es ys vs hs h0 h2 hcap h3 h4 =>
    subst hq
    have hes : es = 2 := (h0 [.int .i64 xs[k].1, .int .i64 xs[k].2] (List.mem_map.2 ⟨xs[k], List.getElem_mem hk, rfl⟩)).symm
    subst hes
    have hk' : k < (xs.map fun x => [PV.int .i64 x.1, PV.int .i64 x.2]).length := by simpa using hk
    have e0 := rep_int (by simpa using h4 k hk' 0 (by simp))
    have e1 := rep_int (by simpa using h4 k hk' 1 (by simp))
    have c0 := h3 k 0 hk' (by decide)
    have c1 := h3 k 1 hk' (by decide)
    rw [e0] at c0; rw [e1] at c1
    have := h2 0 (by omega)
    exact ⟨by omega, by simpa using c0, by simpa [Nat.add_assoc] using c1⟩

theorem Glob.alloc {im : Nat → Nat} {mt : Nat → Option Nat} {gl : Nat → Int × Int} {w : World} (hg : Glob im mt gl w) (o : Obj) : Glob im mt gl (w.alloc o) :=
  ⟨fun b hb => hg.imz b (by simp at hb; omega), fun k b hk => by
    obtain ⟨⟨t, ht⟩, him⟩ := hg.mts k b hk
    exact ⟨⟨t, (World.heap_alloc_lt w _ b (heap_lt ht)).trans ht⟩, him⟩, hg.inj, hg.bnd, hg.tab.keep fun b hb _ => World.heap_alloc_lt w _ b hb⟩
theorem Glob.keepsAlloc {im : Nat → Nat} {mt : Nat → Option Nat} {gl : Nat → Int × Int} {w : World} (hg : Glob im mt gl w) (o : Obj) : Keeps im w im (w.alloc o) :=
  ⟨fun _ => Nat.le_refl _, fun b o' ho => by
    have hb : b < w.heap.size := by
      rcases Nat.lt_or_ge b w.heap.size with h | h
      · exact h
      · rw [hg.imz b h] at ho; omega
    exact World.cell?_of_block (w := w) (World.heap_alloc_lt w _ b hb)⟩

theorem srel_mv {im im' : Nat → Nat} {mt : Nat → Option Nat} {w w' : World} {mq : Option Addr} {m : Option Nat} (h : SRel ⟨im, mt, fun _ => none, fun _ => none⟩ w (.pointer mq) (mv m)) : SRel ⟨im', mt, fun _ => none, fun _ => none⟩ w' (.pointer mq) (mv m) := by
  cases m with
  | none =>
    cases h with
    | pv h => have := rep_nilp h; injection this with this; subst this; exact .pv .nilp
  | some k =>
    obtain ⟨b, hb, e⟩ := srel_mtr h
    injection e with e; subst e
    exact .mtr k 0 b hb

/-- A round of the closure. -/
theorem OfI.round {m : Option Nat} {T' : LT} {G gl : Nat → Int × Int} {im : Nat → Nat} {mt : Nat → Option Nat} {w W : World} {mq : Option Addr} (p i : Int) (hsz : T'.sz < 1000000) (hg : Glob im mt gl w) (hm : SRel ⟨im, mt, fun _ => none, fun _ => none⟩ w (.pointer mq) (mv m)) (hI : OfI im mt w mq T' G W) (o : Obj) :
    Calls Tryd.prog 38 #[.agg #[.int .i64 p, .int .i64 i], .pointer (some ⟨w.heap.size + 1 + 1, 0, none⟩), .pointer (some ⟨w.heap.size, 0, none⟩)] (W.alloc o) fun e W' => ∃ v, e = .returned v ∧ OfI im mt w mq (T'.ins p i).1 (tick m (T'.ins p i).2 ((T'.ins p i).2 + 1) G) W' := by
  obtain ⟨tv, im', e5, hr, hg', him, hi5, hi4⟩ := hI.b5
  have hmt : ∀ k b, mt k = some b → b < w.heap.size := fun k b hk => heap_lt (hg.mts k b hk).1.choose_spec
  have hW := hI.size
  have hal : ∀ b, b < W.heap.size → (W.alloc o).heap[b]? = W.heap[b]? := fun b hb => World.heap_alloc_lt W _ b hb
  refine (of1_raw m T' p i hsz G im' mt (W.alloc o) (w.heap.size + 1 + 1) w.heap.size _ _ tv (.pointer mq) (hg'.alloc o) ((hal _ (by omega)).trans e5) (hr.keeps (hg'.keepsAlloc o)) ((hal _ (by omega)).trans hI.b2) (srel_mv hm) (fun k hk => by have := hmt k _ hk; omega) hi5 (by have := tabHolds_size hg.tab.1; omega)).mono ?_
  rintro e W' ⟨v, im'', tv', he, f5, fr, fg, fos, ftape, fout, fsz, fim, fblk⟩
  have hsz' : (W.alloc o).heap.size = W.heap.size + 1 := by simp
  have keep : ∀ b, b < W.heap.size → b ≠ w.heap.size + 1 + 1 → (∀ k, mt k ≠ some b) → W'.heap[b]? = W.heap[b]? := fun b hb hb5 hk => (fblk b (by omega) hb5 hk).trans (hal b hb)
  exact ⟨v, he, (keep _ (by omega) (by omega) (fun k hk => by have := hmt k _ hk; omega)).trans hI.b2, (keep _ (by omega) (by omega) (fun k hk => by have := hmt k _ hk; omega)).trans hI.b4,
    ⟨tv', im'', f5, fr, fg, fun b hb => (fim b (by omega)).trans (him b hb), (fim _ (by omega)).trans hi5, (fim _ (by omega)).trans hi4⟩, fos.trans hI.os, ftape.trans hI.tape, fout.trans hI.output, by omega, fun b hb hk => (keep b (by omega) (by omega) hk).trans (hI.blk b hb hk)⟩

/-- Elements put in one by one: the heap, and the counts. -/
def ofK (m : Option Nat) (gl : Nat → Int × Int) (l : List (Int × Int)) : LT × (Nat → Int × Int) := l.foldl (fun s x => ((s.1.ins x.1 x.2).1, tick m (s.1.ins x.1 x.2).2 ((s.1.ins x.1 x.2).2 + 1) s.2)) (.nil, gl)

theorem ins_sz (t : LT) (p i : Int) : (t.ins p i).1.sz = t.sz + 1 := by
  unfold LT.ins
  rw [meld_sz _ _ _ (Nat.le_refl _)]
  simp [LT.sz]; omega

theorem ofK_next (m : Option Nat) (gl : Nat → Int × Int) (xs : List (Int × Int)) (k : Nat) (h : k < xs.length) : ofK m gl (xs.take (k + 1)) = (((ofK m gl (xs.take k)).1.ins xs[k].1 xs[k].2).1, tick m ((ofK m gl (xs.take k)).1.ins xs[k].1 xs[k].2).2 (((ofK m gl (xs.take k)).1.ins xs[k].1 xs[k].2).2 + 1) (ofK m gl (xs.take k)).2) := by
  rw [List.take_succ_eq_append_getElem h]
  unfold ofK
  rw [List.foldl_append]
  rfl

theorem slice_some {I : Nat → Nat} {w : World} {ad : Option Addr} {n cap k : Nat} {xs : List (Int × Int)} (h : Rep I w (.slice ad n cap) (.list (xs.map fun x => [.int .i64 x.1, .int .i64 x.2]))) (hk : k < xs.length) : ∃ b o, ad = some ⟨b, o, none⟩ := by
  generalize hq : xs.map (fun x => [PV.int .i64 x.1, .int .i64 x.2]) = ys at h
  cases h with
  | empty => rw [List.map_eq_nil_iff] at hq; subst hq; simp at hk
  | nil => rw [List.map_eq_nil_iff] at hq; subst hq; simp at hk
  | list b o cap es ys vs hs h0 h2 hcap h3 h4 => exact ⟨b, o, rfl⟩

theorem of_raw (m : Option Nat) (xs : List (Int × Int)) (hlen : xs.length ≤ 100000) (gl : Nat → Int × Int) (im : Nat → Nat) (mt : Nat → Option Nat) (w : World) (mq : Option Addr) (ad : Option Addr) (cap : Nat)
    (hg : Glob im mt gl w) (hm : SRel ⟨im, mt, fun _ => none, fun _ => none⟩ w (.pointer mq) (mv m)) (hx : Rep im w (.slice ad xs.length cap) (.list (xs.map fun x => [.int .i64 x.1, .int .i64 x.2]))) :
    Calls Tryd.prog 15 #[.pointer mq, .slice ad xs.length cap] w fun e w' => ∃ tv im', e = .returned (.agg #[tv]) ∧ Rep im' w' tv (ofK m gl xs).1.pt ∧ Ext im mt w im' w' ∧ Glob im' mt (ofK m gl xs).2 w' := by
  go_enter Tryd.func15, Tryd.ntmps15
  go_wp2
  refine wp_loop_ghost (G := Nat × LT × (Nat → Int × Int)) (fun g a W => g.1 ≤ xs.length ∧ g.2.1.sz ≤ g.1 ∧ ofK m gl (xs.take g.1) = g.2 ∧ OfI im mt w mq g.2.1 g.2.2 W ∧ ∃ v8 v14 v15 v16 v17 v18 v19 v20, a = { tmps := #[.pointer mq, .slice ad xs.length cap, .pointer (some ⟨w.heap.size, 0, none⟩), undef, .pointer (some ⟨w.heap.size + 1, 0, none⟩), .pointer (some ⟨w.heap.size + 1 + 1, 0, none⟩), .func (.func 38) #[] #[.pointer (some ⟨w.heap.size + 1 + 1, 0, none⟩), .pointer (some ⟨w.heap.size, 0, none⟩)], undef, v8, .agg #[.pointer none], .func (.func 38) #[] #[.pointer (some ⟨w.heap.size + 1 + 1, 0, none⟩), .pointer (some ⟨w.heap.size, 0, none⟩)], .slice ad xs.length cap, .int .i64 xs.length, .int .i64 g.1, v14, v15, v16, v17, v18, v19, v20, undef], defers := [] }) (fun g => xs.length - g.1) (0, .nil, gl) ?_ ?_
  · have hs0 : ∀ (v : World) o, (v.alloc o).heap.size = v.heap.size + 1 := fun v o => by simp
    refine ⟨Nat.zero_le _, Nat.le_refl _, rfl, ⟨?_, ?_, ⟨.pointer none, im, ?_, .nilp, ((hg.alloc _).alloc _).alloc _, fun _ _ => rfl, hg.imz _ (by omega), hg.imz _ (by omega)⟩, rfl, rfl, rfl, by rw [hs0, hs0, hs0]; exact Nat.le_refl _, fun b hb _ => ?_⟩, _, _, _, _, _, _, _, _, rfl⟩
    · rw [World.heap_alloc_lt _ _ _ (by rw [hs0, hs0]; omega), World.heap_alloc_lt _ _ _ (by rw [hs0]; omega)]; exact heap_new w _
    · rw [World.heap_alloc_lt _ _ _ (by rw [hs0, hs0]; omega)]; have := heap_new (w.alloc (.cells #[.pointer mq] 36 (0, 0))) (.cells #[.pointer none] 26 (0, 0)); rw [hs0] at this; exact this
    · have := heap_new ((w.alloc (.cells #[.pointer mq] 36 (0, 0))).alloc (.cells #[.pointer none] 26 (0, 0))) (.cells #[.pointer none] 26 (0, 0)); rw [hs0, hs0] at this; exact this
    · rw [World.heap_alloc_lt _ _ _ (by rw [hs0, hs0]; omega), World.heap_alloc_lt _ _ _ (by rw [hs0]; omega), World.heap_alloc_lt _ _ _ hb]
  · rintro ⟨k, T, G⟩ a W ⟨hk, hT, hK, hI, v8, v14, v15, v16, v17, v18, v19, v20, rfl⟩
    simp only at hk hT hK hI
    by_cases hlt : k < xs.length
    · have hlt' : (k : Int) < xs.length := by omega
      obtain ⟨b, o, rfl⟩ := slice_some hx hlt
      obtain ⟨him, c0, c1⟩ := slice_at hx k hlt
      have hbw : b < w.heap.size := by
        rcases Nat.lt_or_ge b w.heap.size with h | h
        · exact h
        · rw [hg.imz b h] at him; omega
      have hW : W.heap[b]? = w.heap[b]? := hI.blk b hbw fun j hj => by have := (hg.mts j b hj).2; omega
      have d0 : W.cell? ⟨b, o + k * 2, none⟩ = some (.int .i64 xs[k].1) := (World.cell?_of_block (w := w) hW).trans c0
      have d1 : W.cell? ⟨b, o + k * 2 + 1, none⟩ = some (.int .i64 xs[k].2) := (World.cell?_of_block (w := w) hW).trans c1
      have hcl := fun ob => hI.round xs[k].1 xs[k].2 (by omega) hg hm ob
      go_wp2_with (go_at_call 38; refine (hcl _).mono ?_; rintro e W' ⟨v, rfl, hI'⟩)
      refine ⟨(k + 1, (T.ins xs[k].1 xs[k].2).1, tick m (T.ins xs[k].1 xs[k].2).2 ((T.ins xs[k].1 xs[k].2).2 + 1) G), ⟨by simp; omega, by simp [ins_sz]; omega, by rw [ofK_next m gl xs k hlt, hK], hI', _, _, _, _, _, _, _, _, rfl⟩, by simp; omega⟩
    · have hlt' : ¬ (k : Int) < xs.length := by omega
      obtain ⟨tv, im', e5, hr, hg', him, hi5, hi4⟩ := hI.b5
      obtain ⟨q, rfl⟩ := LT.ptr _ hr
      have d5 : W.cell? ⟨w.heap.size + 1 + 1, 0, none⟩ = some (.pointer q) := by simp [World.cell?, e5]
      have d4 : W.cell? ⟨w.heap.size + 1, 0, none⟩ = some (.pointer none) := by simp [World.cell?, hI.b4]
      have f4 : W.frozen? ⟨w.heap.size + 1, 0, none⟩ = false := by simp [World.frozen?, hI.b4]
      go_wp2
      have hkl : k = xs.length := by omega
      rw [hkl, List.take_length] at hK
      have hW := hI.size
      have hd : (W.setCell ⟨w.heap.size + 1, 0, none⟩ (.pointer q)).heap[w.heap.size + 1]? = some (.cells #[.pointer q] 26 (0, 0)) := by rw [heap_setCell hI.b4]; rfl
      have dd : (W.setCell ⟨w.heap.size + 1, 0, none⟩ (.pointer q)).cell? ⟨w.heap.size + 1, 0, none⟩ = some (.pointer q) := by simp [World.cell?, hd]
      have hne : ∀ b, b ≠ w.heap.size + 1 → (W.setCell ⟨w.heap.size + 1, 0, none⟩ (.pointer q)).heap[b]? = W.heap[b]? := fun b hb => heap_setCell_ne hb _
      have hsz' : (W.setCell ⟨w.heap.size + 1, 0, none⟩ (.pointer q)).heap.size = W.heap.size := by simp [World.setCell]
      have hmt : ∀ k b, mt k = some b → b < w.heap.size := fun k b hk => heap_lt (hg.mts k b hk).1.choose_spec
      refine bodyPost_ret (v := .agg #[.pointer q]) (by simp [results, Tryd.results15, go_sem, dd]) rfl ?_
      refine ⟨.pointer q, rfl, im', ?_, ⟨hI.os, hI.tape, hI.output, by rw [hsz']; omega, him, fun b hb hk => (hne b (by omega)).trans (hI.blk b hb hk)⟩, ?_⟩
      · rw [hK]
        exact hr.keeps ⟨fun _ => Nat.le_refl _, fun b o ho => World.cell?_of_block (w := W) (hne b (fun e => by subst e; omega))⟩
      · rw [hK]
        exact ⟨fun b hb => hg'.imz b (by rw [hsz'] at hb; exact hb), fun k b hk => by
          obtain ⟨⟨t, ht⟩, hi⟩ := hg'.mts k b hk
          exact ⟨⟨t, (hne b (fun e => by have := hmt k b hk; omega)).trans ht⟩, hi⟩, hg'.inj, hg'.bnd, ⟨tabHolds_of (fun b hb => hne b (by have := tabHolds_size hg.tab.1; omega)) hg'.tab.1, hg'.tab.2⟩⟩

/-- An element's cells. -/
def eC (x : Int × Int) : List PV := [.int .i64 x.1, .int .i64 x.2]

theorem of_ok (m : Option Nat) (xs : List (Int × Int)) (hlen : xs.length ≤ 100000) (gl : Nat → Int × Int) : PCalls Tryd.prog 15 [mv m, .pv (.list (xs.map eC))] gl fun r gl' => r = .pv (ofK m gl xs).1.pv ∧ gl' = (ofK m gl xs).2 := by
  intro im mt w vs hg hsz ha
  have h0 := ha 0 (by simp) (by simp at hsz; omega)
  have h1 := ha 1 (by simp) (by simp at hsz; omega)
  have hvs := args_two' (vs := vs) (by simpa using hsz)
  obtain ⟨mq, hq⟩ : ∃ mq, vs[0]'(by simp at hsz; omega) = .pointer mq := by
    generalize vs[0]'(by simp at hsz; omega) = v at h0
    cases m with
    | none => cases h0 with | pv h => exact ⟨_, rep_nilp h⟩
    | some k => obtain ⟨b, _, e⟩ := srel_mtr h0; exact ⟨_, e⟩
  obtain ⟨ad, cap, hs, hr⟩ : ∃ ad cap, vs[1]'(by simp at hsz; omega) = .slice ad xs.length cap ∧ Rep im w (.slice ad xs.length cap) (.list (xs.map eC)) := by
    generalize vs[1]'(by simp at hsz; omega) = v at h1
    cases h1 with
    | pv h =>
      obtain ⟨ad, cap, e, _⟩ := rep_list h
      rw [List.length_map] at e
      subst e
      exact ⟨ad, cap, rfl, h⟩
  rw [hq] at h0
  rw [hvs, hq, hs]
  refine (of_raw m xs hlen gl im mt w mq ad cap hg h0 hr).mono ?_
  rintro e w' ⟨tv, im', rfl, h2, h3, h4⟩
  exact ⟨_, .pv (ofK m gl xs).1.pv, (ofK m gl xs).2, im', rfl, ⟨rfl, rfl⟩, .pv (.agg _ _ (by simp [LT.pt_scalar]) rfl fun i h h' => by
    obtain rfl : i = 0 := by simp at h; omega
    exact h2), h3, h4⟩

end Go.Proofs.YtgbcjpdhmjikgaaDoor
