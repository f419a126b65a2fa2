/- A tree as a text, by a builder: what memory holds meanwhile. -/
import Derived.Test.YtbekdlgkoleblaaDoorK13
namespace Go.Proofs.YtbekdlgkoleblaaDoor
open Go.RowKit
set_option linter.unusedSimpArgs false
set_option linter.unusedVariables false

/-- Memory while a text is built in the block behind all that was: 'w' as it was, the text so far. -/
structure ShI (im : Nat → Nat) (mt : Nat → Option Nat) (gl : Nat → Int × Int) (w : World) (l : List UInt8) (W : World) : Prop where
  glob : Glob im mt gl W
  old : Glob im mt gl w
  os : W.os = w.os
  tape : W.tape = w.tape
  output : W.output = w.output
  size : w.heap.size < W.heap.size
  blk : ∀ b, b < w.heap.size → (∀ k, mt k ≠ some b) → W.heap[b]? = w.heap[b]?
  bld : Lib.IsBuilder 83 5 w.heap.size w.heap.size (Lib.byteCells l) W

theorem ShI.keeps {im mt gl w l W} (h : ShI im mt gl w l W) : Keeps im w im W := by
  refine ⟨fun _ => Nat.le_refl _, fun b o ho => World.cell?_of_block (w := w) (h.blk b ?_ fun k hk => ?_)⟩
  · rcases Nat.lt_or_ge b w.heap.size with hb | hb
    · exact hb
    · rw [h.old.imz b hb] at ho; omega
  · rw [(h.old.mts k b hk).2] at ho; omega

theorem builder_kept {TB e : TypeId} {B b : Nat} {bs : List Value} {W W' : World} (h : Lib.IsBuilder TB e B b bs W) (hk : ∀ c, c < W.heap.size → B ≤ c → W'.heap[c]? = W.heap[c]?) : Lib.IsBuilder TB e B b bs W' := by
  have one : ∀ p, Lib.BuilderAt TB e B b p bs W → Lib.BuilderAt TB e B b p bs W' := by
    rintro p ⟨hB, v, hb, hown, hne⟩
    refine ⟨hB, v, (hk b (heap_lt hb) hB).trans hb, ⟨hown.1, ?_⟩, hne⟩
    rcases hown.2 with hn | ⟨g, cap, cur, e1, e2, hg, rest⟩
    · exact .inl hn
    · exact .inr ⟨g, cap, cur, e1, e2, (hk g (heap_lt hg) e2).trans hg, rest⟩
  rcases h with h | h
  · exact .inl (one _ h)
  · exact .inr (one _ h)

theorem mt_lt {im mt gl w} (h : Glob im mt gl w) {k b : Nat} (hk : mt k = some b) : b < w.heap.size := heap_lt (h.mts k b hk).1.choose_spec

/-- A call meanwhile. -/
theorem ShI.call {f : FuncId} {args : List SV} {r0 : RV} {im mt gl w l W} (hP : PCalls Tryd.prog f args gl fun r gl' => r = r0 ∧ gl' = gl) (h : ShI im mt gl w l W) {vs : Array Value} (hs : vs.size = args.length)
    (ha : ∀ i (h : i < args.length) (h' : i < vs.size), SRel ⟨im, mt, fun _ => none, fun _ => none⟩ W vs[i] args[i]) :
    Calls Tryd.prog f vs W fun e W' => ∃ v im', e = .returned v ∧ RRel im' mt W' W.heap.size v r0 ∧ ShI im mt gl w l W' := by
  refine (hP im mt W vs h.glob hs ha).mono ?_
  rintro e W' ⟨v, r, gl', im', he, ⟨rfl, rfl⟩, hr, hx, hg⟩
  refine ⟨v, im', he, hr, ⟨⟨fun b hb => h.glob.imz b (Nat.le_trans hx.size hb), fun k b hk => ⟨(hg.mts k b hk).1, (h.old.mts k b hk).2⟩, h.old.inj, h.old.bnd, hg.tab⟩, h.old, hx.os.trans h.os, hx.tape.trans h.tape, hx.output.trans h.output, Nat.lt_of_lt_of_le h.size hx.size,
    fun b hb hk => (hx.blk b (Nat.lt_trans hb h.size) hk).trans (h.blk b hb hk), builder_kept h.bld fun c hc hB => hx.blk c hc fun k hk => ?_⟩⟩
  have := mt_lt h.old hk
  omega

/-- A text written. -/
theorem ShI.write {im mt gl w l W} (h : ShI im mt gl w l W) (s : ByteArray) (hl : l.length + s.size ≤ 140737488355328) :
    Calls Tryd.prog 43 #[.pointer (some ⟨w.heap.size, 0, none⟩), .string s] W fun e W' => ∃ v, e = .returned v ∧ ShI im mt gl w (l ++ s.data.toList) W' := by
  refine (writeString_raw w.heap.size w.heap.size _ s W h.bld (by rw [Lib.byteCells_length]; exact hl) (Nat.le_of_lt h.size)).mono ?_
  rintro e W' ⟨he, hb, hbl⟩
  refine ⟨_, he, ⟨⟨fun b hb => h.old.imz b (Nat.le_trans (Nat.le_of_lt h.size) (Nat.le_trans hbl.size hb)), fun k b hk => ?_, h.old.inj, h.old.bnd, ⟨tabHolds_of (fun b hb => hbl.block b (by have := tabHolds_size h.old.tab.1; omega)) h.glob.tab.1, h.glob.tab.2⟩⟩, h.old, hbl.os.trans h.os, hbl.tape.trans h.tape, hbl.output.trans h.output, Nat.lt_of_lt_of_le h.size hbl.size,
    fun b hb hk => (hbl.block b hb).trans (h.blk b hb hk), .inr ?_⟩⟩
  · obtain ⟨⟨t, ht⟩, hi⟩ := h.glob.mts k b hk
    exact ⟨⟨t, (hbl.block b (mt_lt h.old hk)).trans ht⟩, hi⟩
  · rw [Lib.byteCells_append]
    exact hb

/-- Where it begins. -/
theorem ShI.start {im mt gl w} (h : Glob im mt gl w) : ShI im mt gl w [] (w.alloc (.cells #[.pointer none, .slice none 0 0] 83)) := by
  have halloc : ∀ b, b < w.heap.size → (w.alloc (.cells #[.pointer none, .slice none 0 0] 83)).heap[b]? = w.heap[b]? := fun b hb => World.heap_alloc_lt w _ b hb
  have hasz : (w.alloc (.cells #[.pointer none, .slice none 0 0] 83)).heap.size = w.heap.size + 1 := by simp
  exact ⟨⟨fun b hb => h.imz b (by rw [hasz] at hb; omega), fun k b hk => by
    obtain ⟨⟨t, ht⟩, hi⟩ := h.mts k b hk
    exact ⟨⟨t, (halloc b (heap_lt ht)).trans ht⟩, hi⟩, h.inj, h.bnd, h.tab.keep fun b hb _ => halloc b hb⟩, h, rfl, rfl, rfl, by rw [hasz]; omega, fun b hb _ => halloc b hb, Lib.fresh_isBuilder _ _ w⟩

/-- The text told. -/
theorem ShI.tell {im mt gl w l W} (h : ShI im mt gl w l W) : Calls Tryd.prog 45 #[.pointer (some ⟨w.heap.size, 0, none⟩)] W fun e W' => e = .returned (.string ⟨l.toArray⟩) ∧ Ext im mt w im W' ∧ Glob im mt gl W' := by
  refine (Tryd.Builder_String_any w.heap.size w.heap.size l W h.bld (Nat.le_of_lt h.size)).mono ?_
  rintro e W' ⟨he, hbl⟩
  refine ⟨he, ⟨hbl.os.trans h.os, hbl.tape.trans h.tape, hbl.output.trans h.output, Nat.le_trans (Nat.le_of_lt h.size) hbl.size, fun _ _ => rfl, fun b hb hk => (hbl.block b hb).trans (h.blk b hb hk)⟩,
    ⟨fun b hb => h.old.imz b (Nat.le_trans (Nat.le_of_lt h.size) (Nat.le_trans hbl.size hb)), fun k b hk => ?_, h.old.inj, h.old.bnd, ⟨tabHolds_of (fun b hb => hbl.block b (by have := tabHolds_size h.old.tab.1; omega)) h.glob.tab.1, h.glob.tab.2⟩⟩⟩
  obtain ⟨⟨t, ht⟩, hi⟩ := h.glob.mts k b hk
  exact ⟨⟨t, (hbl.block b (mt_lt h.old hk)).trans ht⟩, hi⟩
end Go.Proofs.YtbekdlgkoleblaaDoor
