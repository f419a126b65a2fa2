/- What the pure state says of the world; that it stays said while memory grows, and is written. -/
import Derived.Test.YtbekdlgkoleblaaDoorEngB
import Derived.Laws.CopyRow
namespace Go.Proofs.YtbekdlgkoleblaaDoor

/-- What is fixed while a body runs. -/
structure Fr where
  w0 : World
  im0 : Nat → Nat
  mt : Nat → Option Nat
  gn0 : Nat
  nt : Nat

structure Inv (F : Fr) (g : Gh) (s : PS) (a : Act) (w : World) : Prop where
  nt : a.tmps.size = F.nt
  df : a.defers = []
  os : w.os = F.w0.os
  tape : w.tape = F.w0.tape
  output : w.output = F.w0.output
  base : F.w0.heap.size ≤ w.heap.size
  imz : ∀ b, w.heap.size ≤ b → g.im b = 0
  im0 : ∀ b, b < F.w0.heap.size → g.im b = F.im0 b
  blk : ∀ b, b < F.w0.heap.size → (∀ k, F.mt k ≠ some b) → w.heap[b]? = F.w0.heap[b]?
  mts : ∀ k b, g.mt k = some b → (∃ t, w.heap[b]? = some (.cells #[.int .i64 (IntKind.i64.wrap (s.gl k).1), .int .i64 (IntKind.i64.wrap (s.gl k).2)] t (0, 0))) ∧ g.im b = 0
  mtinj : ∀ k k' b, g.mt k = some b → g.mt k' = some b → k = k'
  mtold : ∀ k b, F.mt k = some b → g.mt k = some b
  mtnew : ∀ k b, g.mt k = some b → F.mt k = some b ∨ F.w0.heap.size ≤ b
  mtlt : ∀ k b, g.mt k = some b → k < s.gn
  tab : TabG F.mt F.w0
  locs : ∀ d b, g.lc d = some b → F.w0.heap.size ≤ b ∧ g.im b = 0 ∧ (∀ k, g.mt k ≠ some b) ∧ ∃ cells c t, s.loc d = some cells ∧ w.heap[b]? = some (.cells c t (0, 0)) ∧
    cells.length ≤ c.size ∧ (∀ p ∈ cells, p.scalar = true) ∧ ∀ i (h : i < cells.length) (h' : i < c.size), Rep g.im w c[i] cells[i]
  lcinj : ∀ d d' b, g.lc d = some b → g.lc d' = some b → d = d'
  ows : ∀ k b, g.ow k = some (some b) → F.w0.heap.size ≤ b ∧ 0 < g.im b
  owinj : ∀ k k' b, g.ow k = some (some b) → g.ow k' = some (some b) → k = k'
  env : ∀ t v, s.env t = some v → SRel g w (a.tmps.getD t undef) v

theorem heap_lt {w : World} {b : Nat} {o : Obj} (h : w.heap[b]? = some o) : b < w.heap.size := (Array.getElem?_eq_some_iff.1 h).1

theorem SRel.mono {g w g' w' v s} (h : SRel g w v s) (k : Keeps g.im w g'.im w') (hm : ∀ k b, g.mt k = some b → g'.mt k = some b) (hl : ∀ k b, g.lc k = some b → g'.lc k = some b)
    (ho : ∀ k x, g.ow k = some x → g'.ow k = some x) (hb : ∀ k b, g.ow k = some (some b) → w'.heap[b]? = w.heap[b]? ∧ g'.im b = g.im b) : SRel g' w' v s := by
  induction h with
  | undef => exact .undef
  | pv h => exact .pv (h.keeps k)
  | loc d off b h => exact .loc d off b (hl _ _ h)
  | mtr k off b h => exact .mtr k off b (hm _ _ h)
  | full h => exact .full (h.keeps k)
  | lrow d n b cap h => exact .lrow d n b cap (hl _ _ h)
  | ownNone h h' => exact .ownNone (ho _ _ h) (h'.keeps k)
  | own h h' h'' =>
    obtain ⟨cap, c, t, es, e1, e2, e3, e4, r⟩ := h''
    obtain ⟨hb1, hb2⟩ := hb _ _ h
    exact .own (ho _ _ h) (h'.keeps k) ⟨cap, c, t, es, e1, hb1.trans e2, e3, hb2.trans e4, r⟩
  | tup us vs h h4 ih => exact .tup us vs h ih

theorem getD_set (a : Array Value) (d : Nat) (v : Value) (t : Nat) (hd : d < a.size) : (a.setIfInBounds d v).getD t undef = if t = d then v else a.getD t undef := by
  by_cases h : t = d
  · subst h; simp [hd]
  · simp [Array.getElem?_setIfInBounds_ne (Ne.symm h), h]

/-- An answer is put: nothing else turns. -/
theorem Inv.put {F g s a w} (h : Inv F g s a w) {d : Option Nat} {v : Value} {x : SV} (hd : dstFits F.nt d) (hv : SRel g w v x) : Inv F g (s.put d x) (a.put d v) w := by
  cases d with
  | none => exact h
  | some d =>
    have hd' : d < a.tmps.size := by rw [h.nt]; exact hd
    refine { h with nt := ?_, env := ?_ }
    · simpa [Act.put] using h.nt
    · intro t y hy
      simp only [Act.put, getD_set _ _ _ _ hd']
      simp only [PS.put, upd] at hy
      split
      · rename_i e; rw [if_pos e] at hy; injection hy with hy; exact hy ▸ hv
      · rename_i e; rw [if_neg e] at hy; exact h.env t y hy

theorem World.heap_alloc_lt (w : World) (o : Obj) (b : Nat) (h : b < w.heap.size) : (w.alloc o).heap[b]? = w.heap[b]? := Go.RowKit.Below.heap_alloc w o b h

/-- The ghost of a new block, never written up to n. -/
def Gh.newIm (g : Gh) (b n : Nat) : Gh := { g with im := upd g.im b n }

theorem keeps_alloc {I : Nat → Nat} {w : World} (hz : ∀ b, w.heap.size ≤ b → I b = 0) (o : Obj) (n : Nat) : Keeps I w (upd I w.heap.size n) (w.alloc o) := by
  refine ⟨fun b => ?_, fun b off ho => ?_⟩
  · unfold upd; split
    · rename_i e; subst e; rw [hz _ (Nat.le_refl _)]; exact Nat.zero_le _
    · exact Nat.le_refl _
  · have hb : b < w.heap.size := by
      rcases Nat.lt_or_ge b w.heap.size with h | h
      · exact h
      · rw [hz b h] at ho; omega
    exact World.cell?_of_block (w := w) (World.heap_alloc_lt w o b hb)

/-- Whatever grows the world without a word on the old blocks, and gives the ghost new blocks alone. -/
theorem Inv.grow {F g s a w} (h : Inv F g s a w) {g' : Gh} {w' : World} (hos : w'.os = w.os) (htape : w'.tape = w.tape) (hout : w'.output = w.output) (hsz : w.heap.size ≤ w'.heap.size)
    (hblk : ∀ b, b < w.heap.size → w'.heap[b]? = w.heap[b]?) (him : ∀ b, b < w.heap.size → g'.im b = g.im b) (hz : ∀ b, w'.heap.size ≤ b → g'.im b = 0)
    (hmt : g'.mt = g.mt) (hlc : g'.lc = g.lc) (how : g'.ow = g.ow) : Inv F g' s a w' := by
  have hk : Keeps g.im w g'.im w' := by
    refine ⟨fun b => ?_, fun b off ho => ?_⟩
    · rcases Nat.lt_or_ge b w.heap.size with hb | hb
      · rw [him b hb]; exact Nat.le_refl _
      · rw [h.imz b hb]; exact Nat.zero_le _
    · rcases Nat.lt_or_ge b w.heap.size with hb | hb
      · exact World.cell?_of_block (w := w) (hblk b hb)
      · rw [h.imz b hb] at ho; omega
  have hlt : ∀ {b : Nat} {o : Obj}, w.heap[b]? = some o → w'.heap[b]? = some o ∧ g'.im b = g.im b := fun {b o} hb => ⟨(hblk b (heap_lt hb)).trans hb, him b (heap_lt hb)⟩
  refine
    { nt := h.nt, df := h.df, os := hos.trans h.os, tape := htape.trans h.tape, output := hout.trans h.output, base := Nat.le_trans h.base hsz, imz := hz,
      im0 := fun b hb => (him b (Nat.lt_of_lt_of_le hb h.base)).trans (h.im0 b hb), blk := fun b hb hm => (hblk b (Nat.lt_of_lt_of_le hb h.base)).trans (h.blk b hb hm),
      mts := fun k b hk => ?_, mtinj := by rw [hmt]; exact h.mtinj, mtold := by rw [hmt]; exact h.mtold, mtnew := by rw [hmt]; exact h.mtnew, mtlt := by rw [hmt]; exact h.mtlt, tab := h.tab,
      locs := fun d b hd => ?_, lcinj := by rw [hlc]; exact h.lcinj, ows := fun k b hk => ?_, owinj := by rw [how]; exact h.owinj, env := fun t v hv => ?_ }
  · rw [hmt] at hk
    obtain ⟨⟨t, ht⟩, hi⟩ := h.mts k b hk
    exact ⟨⟨t, (hlt ht).1⟩, (hlt ht).2.trans hi⟩
  · rw [hlc] at hd
    obtain ⟨h1, h2, h3, cells, c, t, e1, e2, e3, es, e4⟩ := h.locs d b hd
    exact ⟨h1, (hlt e2).2.trans h2, by rw [hmt]; exact h3, cells, c, t, e1, (hlt e2).1, e3, es, fun i hi hi' => (e4 i hi hi').keeps hk⟩
  · rw [how] at hk
    obtain ⟨h1, h2⟩ := h.ows k b hk
    refine ⟨h1, ?_⟩
    have hb : b < w.heap.size := by
      rcases Nat.lt_or_ge b w.heap.size with hb | hb
      · exact hb
      · rw [h.imz b hb] at h2; omega
    rw [him b hb]; exact h2
  · refine (h.env t v hv).mono hk (by rw [hmt]; exact fun _ _ h => h) (by rw [hlc]; exact fun _ _ h => h) (by rw [how]; exact fun _ _ h => h) fun k b hk => ?_
    have h2 := (h.ows k b hk).2
    have hb : b < w.heap.size := by
      rcases Nat.lt_or_ge b w.heap.size with hb | hb
      · exact hb
      · rw [h.imz b hb] at h2; omega
    exact ⟨hblk b hb, him b hb⟩

theorem Inv.drew {F g s a w} (h : Inv F g s a w) : Inv F g s a { w with drawn := w.drawn + 1 } :=
  h.grow rfl rfl rfl (Nat.le_refl _) (fun _ _ => rfl) (fun _ _ => rfl) h.imz rfl rfl rfl

/-- A new block that is never written. -/
theorem Inv.newIm {F g s a w} (h : Inv F g s a w) (o : Obj) (n : Nat) : Inv F (g.newIm w.heap.size n) s a (w.alloc o) := by
  refine h.grow rfl rfl rfl (by simp) (fun b hb => World.heap_alloc_lt w o b hb) (fun b hb => upd_ne _ _ (by omega)) (fun b hb => ?_) rfl rfl rfl
  have hb' : w.heap.size + 1 ≤ b := by simpa using hb
  show upd g.im w.heap.size n b = 0
  rw [upd_ne _ _ (by omega)]
  exact h.imz b (by omega)

theorem heap_new (w : World) (o : Obj) : (w.alloc o).heap[w.heap.size]? = some o := by simp only [World.alloc, Array.getElem?_push_size]
theorem cell_of_heap {w : World} {b j : Nat} {c : Array Value} {t : TypeId} {fr : Nat × Nat} (h : w.heap[b]? = some (.cells c t fr)) : w.cell? ⟨b, j, none⟩ = c[j]? := by simp [World.cell?, h]

/-- A new local box. -/
theorem Inv.newLoc {F g s a w} (h : Inv F g s a w) (d : Nat) (hd : s.loc d = none) (c : Array Value) (t : TypeId) (cells : List PV) (hc : c.size = cells.length) (hs : ∀ p ∈ cells, p.scalar = true)
    (hr : ∀ i (h : i < cells.length) (h' : i < c.size), Rep g.im w c[i] cells[i]) :
    Inv F { g with lc := upd g.lc d (some w.heap.size) } { s with loc := upd s.loc d (some cells) } a (w.alloc (.cells c t)) := by
  have hd' : g.lc d = none := by
    cases e : g.lc d with
    | none => rfl
    | some b => obtain ⟨_, _, _, cells, _, _, e1, _⟩ := h.locs d b e; rw [hd] at e1; cases e1
  have hg : Inv F g s a (w.alloc (.cells c t)) := by
    refine h.grow rfl rfl rfl (by simp) (fun b hb => World.heap_alloc_lt w _ b hb) (fun _ _ => rfl) (fun b hb => h.imz b ?_) rfl rfl rfl
    have hb' : w.heap.size + 1 ≤ b := by simpa using hb
    omega
  have hk : Keeps g.im w g.im (w.alloc (.cells c t)) := by
    refine ⟨fun b => Nat.le_refl _, fun b off ho => ?_⟩
    rcases Nat.lt_or_ge b w.heap.size with hb | hb
    · exact World.cell?_of_block (w := w) (World.heap_alloc_lt w _ b hb)
    · rw [h.imz b hb] at ho; omega
  refine { hg with locs := ?_, lcinj := ?_, env := ?_, mts := hg.mts }
  · intro d' b hd2
    simp only [upd] at hd2
    split at hd2
    · rename_i e; subst e
      injection hd2 with e; subst e
      refine ⟨h.base, h.imz _ (Nat.le_refl _), fun k hk => ?_, cells, c, t, by simp, heap_new w _, Nat.le_of_eq hc.symm, hs, fun i h h' => (hr i h h').keeps hk⟩
      obtain ⟨⟨_, ht⟩, _⟩ := h.mts k _ hk
      exact absurd (heap_lt ht) (by omega)
    · rename_i e
      obtain ⟨h1, h2, h3, cells', c', t', e1, r⟩ := hg.locs d' b hd2
      exact ⟨h1, h2, h3, cells', c', t', by simpa [upd, e] using e1, r⟩
  · intro d1 d2 b h1 h2
    have hold : ∀ d', g.lc d' = some b → b < w.heap.size := fun d' e => by
      obtain ⟨_, _, _, _, _, _, _, e2, _⟩ := h.locs d' b e
      exact heap_lt e2
    simp only [upd] at h1 h2
    split at h1 <;> split at h2
    · rename_i e1 e2; rw [e1, e2]
    · rename_i e1 e2; injection h1 with e; have := hold d2 h2; omega
    · rename_i e1 e2; injection h2 with e; have := hold d1 h1; omega
    · exact h.lcinj d1 d2 b h1 h2
  · intro t' v hv
    refine (hg.env t' v hv).mono (Keeps.refl _ _) (fun _ _ h => h) (fun k b hk => ?_) (fun _ _ h => h) (fun _ _ _ => ⟨rfl, rfl⟩)
    show upd g.lc d _ k = some b
    rw [upd_ne _ _ (fun e => by subst e; rw [hd'] at hk; cases hk)]
    exact hk

/-- A local box is written. -/
theorem Inv.setLoc {F g s a w} (h : Inv F g s a w) (d b : Nat) (hb : g.lc d = some b) (c' : Array Value) (cells' : List PV) (hc : cells'.length ≤ c'.size) (hs : ∀ p ∈ cells', p.scalar = true)
    (hr : ∀ i (h : i < cells'.length) (h' : i < c'.size), Rep g.im w c'[i] cells'[i]) :
    Inv F g { s with loc := upd s.loc d (some cells') } a (w.setRow b c') := by
  obtain ⟨hbase, him, hmt, cells, c, t, e1, e2, e3, _, e4⟩ := h.locs d b hb
  have hother : ∀ b', b' ≠ b → (w.setRow b c').heap[b']? = w.heap[b']? := fun b' hne => setRow_other w b b' c' hne
  have hhere : (w.setRow b c').heap[b]? = some (.cells c' t (0, 0)) := setRow_heap w b c c' t (0, 0) e2
  have hk : Keeps g.im w g.im (w.setRow b c') := by
    refine ⟨fun _ => Nat.le_refl _, fun b' off ho => World.cell?_of_block (w := w) (hother b' fun e => ?_)⟩
    subst e; rw [him] at ho; omega
  have hne : ∀ {b' : Nat}, 0 < g.im b' → b' ≠ b := fun hp e => by subst e; omega
  refine { h with os := h.os, tape := h.tape, output := h.output, base := by simpa [World.setRow] using h.base, imz := by simpa [World.setRow] using h.imz, blk := ?_, mts := ?_, locs := ?_, env := ?_ }
  · intro b' hb' hm
    rw [hother b' (by omega)]; exact h.blk b' hb' hm
  · intro k b' hk'
    obtain ⟨⟨t', ht'⟩, hi⟩ := h.mts k b' hk'
    exact ⟨⟨t', (hother b' (fun e => by subst e; exact hmt k hk')).trans ht'⟩, hi⟩
  · intro d' b' hd'
    obtain ⟨h1, h2, h3, cl, cc, tt, f1, f2, f3, fs, f4⟩ := h.locs d' b' hd'
    by_cases hdd : d' = d
    · subst hdd
      rw [hb] at hd'; injection hd' with e; subst e
      exact ⟨h1, h2, h3, cells', c', t, by simp, hhere, hc, hs, fun i h h' => (hr i h h').keeps hk⟩
    · exact ⟨h1, h2, h3, cl, cc, tt, by simpa [upd, hdd] using f1, (hother b' (fun e => hdd (h.lcinj _ _ _ hd' (e ▸ hb)))).trans f2, f3, fs, fun i h h' => (f4 i h h').keeps hk⟩
  · intro t' v hv
    exact (h.env t' v hv).mono hk (fun _ _ h => h) (fun _ _ h => h) (fun _ _ h => h) fun k b' hk' => ⟨hother b' (hne (h.ows k b' hk').2), rfl⟩

end Go.Proofs.YtbekdlgkoleblaaDoor
