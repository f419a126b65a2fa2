/- Calls, regions that keep the text's order, bodies. -/
import Derived.Test.YtbekdlgkoleblaaDoorEngK
namespace Go.Proofs.YtbekdlgkoleblaaDoor

section
variable {P : Program} {F : Fr} {g : Gh} {s : PS} {a : Act} {w : World}

theorem Inv.globOf (h : Inv F g s a w) : Glob g.im g.mt s.gl w := ⟨h.imz, h.mts, h.mtinj, ⟨s.gn, h.mtlt⟩, (h.tab.keep h.blk).1, fun k b hk => (h.mtnew k b hk).elim (h.tab.2 k b) fun h1 => Nat.le_trans (tabHolds_size h.tab.1) h1⟩

theorem im_lt (h : Inv F g s a w) {b : Nat} (hb : 0 < g.im b) : b < w.heap.size := by
  rcases Nat.lt_or_ge b w.heap.size with h1 | h1
  · exact h1
  · rw [h.imz b h1] at hb; omega

/-- Behind a call. -/
theorem Inv.called (h : Inv F g s a w) {im' : Nat → Nat} {w' : World} {gl' : Nat → Int × Int} (he : Ext g.im g.mt w im' w') (hg : Glob im' g.mt gl' w') : Inv F { g with im := im' } { s with gl := gl' } a w' := by
  have hnm : ∀ {b : Nat}, 0 < g.im b → ∀ k, g.mt k ≠ some b := fun hb k hk => by have := (h.mts k _ hk).2; omega
  have hk : Keeps g.im w im' w' := by
    refine ⟨fun b => ?_, fun b o ho => ?_⟩
    · rcases Nat.lt_or_ge b w.heap.size with hb | hb
      · rw [he.im b hb]; exact Nat.le_refl _
      · rw [h.imz b hb]; exact Nat.zero_le _
    · have hb := im_lt h (b := b) (by omega)
      exact World.cell?_of_block (w := w) (he.blk b hb (hnm (by omega)))
  refine
    { nt := h.nt, df := h.df, os := he.os.trans h.os, tape := he.tape.trans h.tape, output := he.output.trans h.output, base := Nat.le_trans h.base he.size, imz := hg.imz,
      im0 := fun b hb => (he.im b (Nat.lt_of_lt_of_le hb h.base)).trans (h.im0 b hb), blk := fun b hb hm => ?_, mts := hg.mts, mtinj := h.mtinj, mtold := h.mtold, mtnew := h.mtnew, mtlt := h.mtlt, tab := h.tab,
      locs := fun d b hd => ?_, lcinj := h.lcinj, ows := fun k b hk' => ?_, owinj := h.owinj, env := fun t v hv => ?_ }
  · refine (he.blk b (Nat.lt_of_lt_of_le hb h.base) fun k hk' => ?_).trans (h.blk b hb hm)
    rcases h.mtnew k b hk' with h1 | h1
    · exact hm k h1
    · omega
  · obtain ⟨h1, h2, h3, cells, c, t, e1, e2, e3, es, e4⟩ := h.locs d b hd
    have hb := heap_lt e2
    exact ⟨h1, (he.im b hb).trans h2, h3, cells, c, t, e1, (he.blk b hb h3).trans e2, e3, es, fun i hi hi' => (e4 i hi hi').keeps hk⟩
  · obtain ⟨h1, h2⟩ := h.ows k b hk'
    exact ⟨h1, by show 0 < im' b; rw [he.im b (im_lt h h2)]; exact h2⟩
  · refine (h.env t v hv).mono hk (fun _ _ h => h) (fun _ _ h => h) (fun _ _ h => h) fun k b hk' => ?_
    have h2 := (h.ows k b hk').2
    exact ⟨he.blk b (im_lt h h2) (hnm h2), he.im b (im_lt h h2)⟩

/-- A token is given anew: whoever held it reads it as a row. -/
theorem Inv.retok (h : Inv F g s a w) (k : Nat) (ob : Option Nat) (hob : ∀ b, ob = some b → F.w0.heap.size ≤ b ∧ 0 < g.im b ∧ ∀ j, g.ow j ≠ some (some b)) :
    Inv F { g with ow := upd g.ow k (some ob) } { s with env := dem k s.env } a w := by
  refine { h with ows := fun j b hj => ?_, owinj := fun j1 j2 b h1 h2 => ?_, env := fun t v hv => ?_, mts := h.mts, locs := h.locs }
  · simp only [upd] at hj
    split at hj
    · injection hj with e; exact ⟨(hob b e).1, (hob b e).2.1⟩
    · exact h.ows j b hj
  · simp only [upd] at h1 h2
    split at h1 <;> split at h2
    · rename_i e1 e2; rw [e1, e2]
    · rename_i e1 e2; injection h1 with e; exact absurd h2 ((hob b e).2.2 _)
    · rename_i e1 e2; injection h2 with e; exact absurd h1 ((hob b e).2.2 _)
    · exact h.owinj _ _ b h1 h2
  · obtain ⟨v0, hv0, rfl⟩ := Option.map_eq_some_iff.1 (show (s.env t).map (SV.demote k) = some v from hv)
    have key : ∀ {val v0}, SRel g w val v0 → SRel { g with ow := upd g.ow k (some ob) } w val (SV.demote k v0) := by
      intro val v0 hr
      induction hr with
      | undef => exact .undef
      | pv hp => exact .pv hp
      | loc d off b hb => exact .loc d off b hb
      | mtr k' off b hb => exact .mtr k' off b hb
      | lrow d n b cap h => exact .lrow d n b cap h
      | full hp => exact .full hp
      | ownNone h1 hp =>
        simp only [SV.demote]
        split
        · exact .pv hp
        · rename_i hkk
          exact .ownNone (by show upd g.ow k _ _ = _; rw [upd_ne _ _ hkk]; exact h1) hp
      | own h1 hp hat =>
        simp only [SV.demote]
        split
        · exact .pv hp
        · rename_i hkk
          exact .own (by show upd g.ow k _ _ = _; rw [upd_ne _ _ hkk]; exact h1) hp hat
      | tup us vs hs h4 ih =>
        simp only [SV.demote]
        refine .tup us _ (by rw [demoteAll_length]; exact hs) fun i hi hi' => ?_
        have hi2 : i < vs.length := by rw [demoteAll_length] at hi; exact hi
        rw [demoteAll_get k vs i hi2]
        exact ih i hi2 hi'
    exact key (h.env t v0 hv0)

theorem plain_ok {im : Nat → Nat} {mt : Nat → Option Nat} {n : Nat} {g' : Gh} (hg : g'.im = im) {v : Value} {r : RV} (h : RRel im mt w n v r) {x : SV} (hx : r.plain = some x) : SRel g' w v x := by
  cases h with
  | pv h => simp only [RV.plain, Option.some.injEq] at hx; subst hx; exact .pv (by rw [hg]; exact h)
  | freshFull h => simp only [RV.plain, Option.some.injEq] at hx; subst hx; exact .pv (by rw [hg]; exact h)
  | fresh h h' h'' => simp only [RV.plain, Option.some.injEq] at hx; subst hx; exact .pv (by rw [hg]; exact h')
  | newm b c d t h h' h'' => simp [RV.plain] at hx
  | tup us vs h h4 => simp [RV.plain] at hx

theorem plainAll_ok {im : Nat → Nat} {mt : Nat → Option Nat} {n : Nat} {g' : Gh} (hg : g'.im = im) : ∀ {us : List Value} {rs : List RV} {l : List SV}, us.length = rs.length → (∀ i (h : i < rs.length) (h' : i < us.length), RRel im mt w n us[i] rs[i]) → plainAll rs = some l →
    l.length = us.length ∧ ∀ i (h : i < l.length) (h' : i < us.length), SRel g' w us[i] l[i]
  | [], [], l, _, _, hl => by simp only [plainAll, Option.some.injEq] at hl; subst hl; exact ⟨rfl, fun i h => absurd h (by simp)⟩
  | [], _ :: _, _, h, _, _ => by simp at h
  | _ :: _, [], _, h, _, _ => by simp at h
  | u :: us, r :: rs, l, hlen, hr, hl => by
    simp only [plainAll] at hl
    split at hl
    · rename_i v l' h1 h2
      injection hl with hl; subst hl
      obtain ⟨e, f⟩ := plainAll_ok (us := us) hg (by simpa using hlen) (fun i h h' => by have := hr (i + 1) (by simpa using h) (by simpa using h'); simpa using this) h2
      refine ⟨by simp [e], fun i hi hi' => ?_⟩
      cases i with
      | zero => exact plain_ok hg (hr 0 (by simp) (by simp)) h1
      | succ i => exact f i (by simpa using hi) (by simpa using hi')
    · cases hl

/-- What is taken of some answers: a token for the first fresh one, and what it means. -/
theorem takeAll_ok {im : Nat → Nat} {mt : Nat → Option Nat} {n d : Nat} : ∀ {us : List Value} {rs : List RV} {l : List SV}, us.length = rs.length → (∀ i (h : i < rs.length) (h' : i < us.length), RRel im mt w n us[i] rs[i]) → takeAll d rs = some l →
    ∃ ob : Option Nat, (∀ b, ob = some b → n ≤ b ∧ 0 < im b) ∧ l.length = us.length ∧ ∀ g' : Gh, g'.im = im → g'.ow d = some ob → ∀ i (h : i < l.length) (h' : i < us.length), SRel g' w us[i] l[i]
  | [], [], l, _, _, hl => by simp only [takeAll, Option.some.injEq] at hl; subst hl; exact ⟨none, ⟨(fun _ h => by cases h), rfl, fun _ _ _ i h => absurd h (by simp)⟩⟩
  | [], _ :: _, _, h, _, _ => by simp at h
  | _ :: _, [], _, h, _, _ => by simp at h
  | u :: us, r :: rs, l, hlen, hr, hl => by
    have h0 := hr 0 (by simp) (by simp)
    have htl : ∀ i (h : i < rs.length) (h' : i < us.length), RRel im mt w n us[i] rs[i] := fun i h h' => by have := hr (i + 1) (by simpa using h) (by simpa using h'); simpa using this
    simp only [List.getElem_cons_zero] at h0
    have other : ∀ {v l'}, r.plain = some v → takeAll d rs = some l' → l = v :: l' → ∃ ob : Option Nat, (∀ b, ob = some b → n ≤ b ∧ 0 < im b) ∧ l.length = (u :: us).length ∧ ∀ g' : Gh, g'.im = im → g'.ow d = some ob → ∀ i (h : i < l.length) (h' : i < (u :: us).length), SRel g' w (u :: us)[i] l[i] := by
      intro v l' h1 h2 hl'
      subst hl'
      obtain ⟨ob, e1, e2, e3⟩ := takeAll_ok (us := us) (by simpa using hlen) htl h2
      refine ⟨ob, e1, by simp [e2], fun g' hg ho i hi hi' => ?_⟩
      cases i with
      | zero => exact plain_ok hg h0 h1
      | succ i => exact e3 g' hg ho i (by simpa using hi) (by simpa using hi')
    cases r with
    | fresh xs =>
      simp only [takeAll] at hl
      obtain ⟨l', h2, rfl⟩ := Option.map_eq_some_iff.1 hl
      have fin : ∀ ob : Option Nat, (∀ b, ob = some b → n ≤ b ∧ 0 < im b) → (∀ g' : Gh, g'.im = im → g'.ow d = some ob → SRel g' w u (.own d xs)) →
          ∃ ob : Option Nat, (∀ b, ob = some b → n ≤ b ∧ 0 < im b) ∧ (SV.own d xs :: l').length = (u :: us).length ∧ ∀ g' : Gh, g'.im = im → g'.ow d = some ob → ∀ i (h : i < (SV.own d xs :: l').length) (h' : i < (u :: us).length), SRel g' w (u :: us)[i] (SV.own d xs :: l')[i] := by
        intro ob h1 h3
        have e := plainAll_ok (us := us) (g' := ⟨im, fun _ => none, fun _ => none, fun _ => none⟩) rfl (by simpa using hlen) htl h2
        refine ⟨ob, h1, by simp [e.1], fun g' hg ho i hi hi' => ?_⟩
        cases i with
        | zero => exact h3 g' hg ho
        | succ i => exact (plainAll_ok (us := us) hg (by simpa using hlen) htl h2).2 i (by simpa using hi) (by simpa using hi')
      cases h0 with
      | freshFull h => exact fin none (fun _ h => by cases h) fun g' hg ho => .ownNone ho (by rw [hg]; exact h)
      | fresh h h' h'' =>
        rename_i b
        have h3 := h''
        obtain ⟨cap, c, t, es, e1, e2, e3, e4, e5, e6, e7, e8, e9⟩ := h3
        exact fin (some b) (fun b' hb => by injection hb with hb; subst hb; exact ⟨h, by rw [e4]; exact Nat.mul_pos e7 e8⟩) fun g' hg ho => .own ho (by rw [hg]; exact h') (by rw [hg]; exact h'')
    | pv p =>
      simp only [takeAll] at hl
      split at hl
      · rename_i v l' h1 h2; injection hl with hl; exact other h1 h2 hl.symm
      · cases hl
    | newm c e => simp [takeAll, RV.plain] at hl
    | tup vs => simp [takeAll, RV.plain] at hl

theorem upd_upd_self {α : Type} (f : Nat → α) (k : Nat) (x : α) (t : Nat) (h : t ≠ k) : upd f k x t = f t := upd_ne f x h

/-- An answer is put. -/
theorem Inv.answered (h : Inv F g s a w) {n : Nat} (hn : F.w0.heap.size ≤ n) (hown : ∀ j b, g.ow j = some (some b) → b < n) (hmt : ∀ j b, g.mt j = some b → b < n) (hlc : ∀ j b, g.lc j = some b → b < n) {v : Value} {r : RV} (hr : RRel g.im g.mt w n v r) {d : Option Nat} (hd : dstFits F.nt d) :
    ∃ g', Inv F g' (s.answer d r) (a.put d v) w := by
  cases d with
  | none => exact ⟨g, by cases r <;> exact h⟩
  | some d =>
    cases hr with
    | pv hp => exact ⟨g, h.put (d := some d) (x := .pv _) hd (.pv hp)⟩
    | freshFull hp =>
      have := h.retok d none fun _ e => by cases e
      exact ⟨_, this.put (d := some d) (x := .own d _) hd (.ownNone (by simp) hp)⟩
    | fresh h1 h2 h3 =>
      rename_i b xs
      have h4 := h3
      obtain ⟨cap, c, t, es, e1, e2, e3, e4, e5, e6, e7, e8, e9⟩ := h4
      have := h.retok d (some b) fun b' e => by
        injection e with e; subst e
        exact ⟨by omega, by rw [e4]; exact Nat.mul_pos e7 e8, fun j hj => by have := hown j _ hj; omega⟩
      exact ⟨_, this.put (d := some d) (x := .own d _) hd (.own (by simp) h2 h3)⟩
    | newm b c e t h1 h2 h3 =>
      have hnone : g.mt s.gn = none := by
        cases hq : g.mt s.gn with
        | none => rfl
        | some b' => have := h.mtlt _ _ hq; omega
      have hinv : Inv F { g with mt := upd g.mt s.gn (some b) } { s with gl := upd s.gl s.gn (c, e), gn := s.gn + 1 } a w := by
        refine { h with mts := fun k b' hk => ?_, mtinj := fun k k' b' hk hk' => ?_, mtold := fun k b' hk => ?_, mtnew := fun k b' hk => ?_, mtlt := fun k b' hk => ?_, locs := fun d' b' hd' => ?_, env := fun t' v' hv' => ?_ }
        · simp only [upd] at hk
          split at hk
          · rename_i e1; injection hk with e2; subst e2; subst e1
            exact ⟨⟨t, by simpa using h2⟩, h3⟩
          · rename_i e1
            have := h.mts k b' hk
            simpa [upd, e1] using this
        · simp only [upd] at hk hk'
          split at hk <;> split at hk'
          · rename_i e1 e2; rw [e1, e2]
          · rename_i e1 e2; injection hk with e3; subst e3; have := hmt k' _ hk'; omega
          · rename_i e1 e2; injection hk' with e3; subst e3; have := hmt k _ hk; omega
          · exact h.mtinj k k' b' hk hk'
        · show upd g.mt s.gn (some b) k = some b'
          have := h.mtold k b' hk
          rw [upd_ne _ _ (fun e1 => by subst e1; rw [hnone] at this; cases this)]
          exact this
        · simp only [upd] at hk
          split at hk
          · injection hk with e2; subst e2; exact .inr (by omega)
          · exact h.mtnew k b' hk
        · show k < s.gn + 1
          simp only [upd] at hk
          split at hk
          · omega
          · have := h.mtlt k b' hk; omega
        · obtain ⟨g1, g2, g3, r⟩ := h.locs d' b' hd'
          refine ⟨g1, g2, fun k hk => ?_, r⟩
          simp only [upd] at hk
          split at hk
          · injection hk with e2; subst e2; have := hlc d' _ hd'; omega
          · exact g3 k hk
        · refine (h.env t' v' hv').mono (Keeps.refl _ _) (fun k b' hk => ?_) (fun _ _ h => h) (fun _ _ h => h) fun _ _ _ => ⟨rfl, rfl⟩
          show upd g.mt s.gn (some b) k = some b'
          rw [upd_ne _ _ (fun e1 => by subst e1; rw [hnone] at hk; cases hk)]
          exact hk
      exact ⟨_, hinv.put (d := some d) (x := .mtr s.gn 0) hd (.mtr s.gn 0 b (by simp))⟩
    | tup us vs hs h4 =>
      cases ht : takeAll d vs with
      | none =>
        have := h.retok d none fun _ e => by cases e
        have h5 := this.put (d := some d) (x := .undef) (v := undef) hd .undef
        refine ⟨_, { h5 with nt := ?_, env := fun t' v' hv' => ?_, locs := h5.locs, mts := h5.mts }⟩
        · simpa [Act.put] using h5.nt
        · simp only [PS.answer, ht, Option.map_none, upd] at hv'
          split at hv'
          · cases hv'
          · rename_i hne
            have hd' : d < a.tmps.size := by rw [h.nt]; exact hd
            have := this.env t' v' hv'
            simpa only [Act.put, getD_set _ _ _ _ hd', hne, if_false] using this
      | some l =>
        obtain ⟨ob, e1, e2, e3⟩ := takeAll_ok (us := us.toList) (n := n) (d := d) (im := g.im) (mt := g.mt) (w := w) (by simpa using hs) (fun i h h' => by have := h4 i h (by simpa using h'); simpa using this) ht
        have := h.retok d ob fun b hb => ⟨by have := (e1 b hb).1; omega, (e1 b hb).2, fun j hj => by have := hown j _ hj; have := (e1 b hb).1; omega⟩
        have h5 := this.put (d := some d) (x := .tup l) (v := .tuple us) hd (.tup us l (by simpa using e2.symm) fun i hi hi' => by have := e3 { g with ow := upd g.ow d (some ob) } rfl (upd_same _ _ _) i hi (by simpa using hi'); simpa using this)
        have e : s.answer (some d) (.tup vs) = ({ s with env := dem d s.env } : PS).put (some d) (.tup l) := by simp [PS.answer, ht, PS.put]
        rw [e]; exact ⟨_, h5⟩

theorem arg_ok {v : Value} {x y : SV} (h : SRel g w v x) (hy : x.arg? = some y) : SRel ⟨g.im, g.mt, fun _ => none, fun _ => none⟩ w v y := by
  cases h <;> simp only [SV.arg?, Option.some.injEq, reduceCtorEq] at hy <;> subst hy
  · exact .pv (by assumption)
  · exact .mtr _ _ _ (by assumption)
  · exact .pv (by assumption)
  · exact .pv (by assumption)
  · exact .pv (by assumption)

theorem pargs_ok (h : Inv F g s a w) : ∀ {l : List Operand} {vs : List SV}, pargs s.env l = some vs → (l.map a.eval).length = vs.length ∧ ∀ i (h : i < vs.length) (h' : i < (l.map a.eval).length), SRel ⟨g.im, g.mt, fun _ => none, fun _ => none⟩ w (l.map a.eval)[i] vs[i]
  | [], vs, hp => by simp only [pargs, Option.some.injEq] at hp; subst hp; exact ⟨rfl, fun i h => absurd h (by simp)⟩
  | x :: rest, vs, hp => by
    simp only [pargs] at hp
    split at hp
    · rename_i v l h1 h2
      injection hp with hp; subst hp
      obtain ⟨e, f⟩ := pargs_ok h h2
      obtain ⟨y, hy1, hy2⟩ := Option.bind_eq_some_iff.1 h1
      refine ⟨by simpa using e, fun i hi hi' => ?_⟩
      cases i with
      | zero => exact arg_ok (ev_ok h hy1) hy2
      | succ i => exact f i (by simpa using hi) (by simpa using hi')
    · cases hp

/-- What holds of the world behind an operation: some pure state that is good. -/
def Sees (F : Fr) (K : PS → Prop) (a : Act) (w : World) : Prop := ∃ s g, Inv F g s a w ∧ K s

theorem did_wp {o : Oper} {s' : PS} {K : PS → Prop} {Q : Exit → Act → World → Prop} (h : Did P F s' o a w) (hk : K s') : o.wp P a w (Sees F K) Q := by
  obtain ⟨g', w', ⟨v, hr, hi⟩ | ⟨hr, hi⟩⟩ := h
  · unfold Oper.wp; rw [hr]; exact ⟨s', g', hi, hk⟩
  · unfold Oper.wp; rw [hr]; exact ⟨s', g', hi, hk⟩

theorem pvIn_eq {v : Option SV} {p : PV} (h : pvIn v = some p) : v = some (.pv p) := by
  unfold pvIn at h
  split at h
  · injection h with h; rw [h]
  · cases h
theorem srel_clo {v : Value} {f : FuncId} {caps : List PV} (h : SRel g w v (.pv (.clo f caps))) : ∃ cs : Array Value, v = .func (.func f) #[] cs ∧ cs.size = caps.length ∧ ∀ i (h : i < caps.length) (h' : i < cs.size), Rep g.im w cs[i] caps[i] := by
  cases h with | pv h => cases h with | clo f cs caps hs h4 => exact ⟨cs, rfl, hs, h4⟩
theorem srel_ifc {v : Value} {t : TypeId} {p : PV} (h : SRel g w v (.pv (.ifc t p))) : ∃ u, v = .iface t u ∧ Rep g.im w u p := by
  cases h with | pv h => cases h with | ifc t v p h => exact ⟨v, rfl, h⟩

/-- A method that a type's values have themselves. -/
theorem methP_ok {t : TypeId} {name : String} {f : FuncId} (h : methP P t name = some f) (v : Value) (args : Array Value) (w : World) : (callMethod (.iface t v) name args).run P w = (callFunc f (#[v] ++ args)).run P w := by
  unfold methP at h
  split at h
  · cases h
  · rename_i d m hn hd hm
    cases hi : P.info? t with
    | none => rw [hi] at hm; cases hm
    | some i =>
      rw [hi] at hm
      simp only [Option.bind_some] at hm
      split at h
      · rename_i f' hp hf
        injection h with h; subst h
        have hd' : P.underlying t = some d := hd
        have hne : ∀ e, d ≠ .pointer e := fun e he => hn e (by rw [he])
        have hfuel : P.types.size + Made.depth = (P.types.size + (Made.depth - 1)) + 1 := by simp [Made.depth]
        have hrun : (method (P.types.size + Made.depth) t v name).run P w = .ok (f', v) w := by
          rw [hfuel]
          cases d <;> first
            | (exfalso; exact hne _ rfl)
            | simp [method, typeInfo, hi, hm, hp, hf, follow, receiverAt, run_underlying hd', Place.get]
        simp only [callMethod, Sem.run_bind, run_program, Result.andThen_ok, hrun]
      · cases h
  · cases h

/-- Whom a call enters, with what. -/
theorem pcallOf_ok (h : Inv F g s a w) {o : Oper} {c : Call} {f : FuncId} {l : List SV} (hop : o.op = .call c) (hp : pcallOf P s.env c = some (f, l)) (hfit : callFits P f) :
    ∃ vs : Array Value, (execOp a.eval o).run P w = .ok (.enter f vs) w ∧ vs.size = l.length ∧ ∀ i (h : i < l.length) (h' : i < vs.size), SRel ⟨g.im, g.mt, fun _ => none, fun _ => none⟩ w vs[i] l[i] := by
  obtain ⟨callee, args, ts⟩ := c
  obtain ⟨l0, hl0, ht⟩ := Option.bind_eq_some_iff.1 hp
  obtain ⟨hl1, hl2⟩ := pargs_ok h hl0
  simp only at hl0 hl1 hl2 ht
  have hsz : (args.map a.eval).size = l0.length := by simpa using hl1
  have hrel : ∀ i (h : i < l0.length) (h' : i < (args.map a.eval).size), SRel ⟨g.im, g.mt, fun _ => none, fun _ => none⟩ w (args.map a.eval)[i] l0[i] := fun i hi hi' => by have := hl2 i hi (by simpa using hi'); simpa using this
  unfold ptarget at ht
  split at ht
  · injection ht with ht; injection ht with h1 h2; subst h1; subst h2
    exact ⟨args.map a.eval, by simp [execOp, hop, resolve, Deferred.ofValue, Act.eval, invoke, hfit (args.map a.eval) w], hsz, hrel⟩
  · rename_i x hx0
    split at ht
    · rename_i f' caps hx
      injection ht with ht; injection ht with h1 h2; subst h1; subst h2
      have hv := ev_ok h (pvIn_eq hx)
      have hv := srel_clo hv
      obtain ⟨cs, e, hs, hr⟩ := hv
      refine ⟨args.map a.eval ++ cs, by simp [execOp, hop, resolve, e, Deferred.ofValue, invoke, hfit (args.map a.eval ++ cs) w], by simp [hs]; simpa using hsz, fun i hi hi' => ?_⟩
      by_cases hlt : i < l0.length
      · have e1 : (args.map a.eval ++ cs)[i] = (args.map a.eval)[i]'(by rw [hsz]; exact hlt) := Array.getElem_append_left (by rw [hsz]; exact hlt)
        have e2 : (l0 ++ caps.map SV.pv)[i] = l0[i] := List.getElem_append_left hlt
        rw [e1, e2]
        exact hrel i hlt _
      · have hge : l0.length ≤ i := by omega
        have e1 : (args.map a.eval ++ cs)[i] = cs[i - l0.length]'(by simp at hi'; simp at hsz; omega) := by
          rw [Array.getElem_append_right (by rw [hsz]; exact hge)]
          simp only [hsz]
        have e2 : (l0 ++ caps.map SV.pv)[i] = SV.pv (caps[i - l0.length]'(by simp at hi; omega)) := by
          rw [List.getElem_append_right hge, List.getElem_map]
        rw [e1, e2]
        exact .pv (hr _ _ _)
    · cases ht
  · rename_i x name
    split at ht
    · rename_i t p hx
      obtain ⟨f', hm, e⟩ := Option.map_eq_some_iff.1 ht
      injection e with h1 h2; subst h1; subst h2
      obtain ⟨v, e, hr⟩ := srel_ifc (ev_ok h (pvIn_eq hx))
      refine ⟨#[v] ++ args.map a.eval, ?_, by simp; simp at hsz; omega, fun i hi hi' => ?_⟩
      · have := methP_ok hm v (args.map a.eval) w
        have h0 : (#[Value.iface t v] ++ Array.map a.eval args)[0]? = some (.iface t v) := by simp [Array.getElem?_append]
        have h1 : (Array.map a.eval args).extract 0 args.size = Array.map a.eval args := by
          have := Array.extract_size (xs := Array.map a.eval args)
          rw [Array.size_map] at this
          exact this
        simp [execOp, hop, resolve, e, invoke, h0, h1, this]
        exact hfit _ _
      · cases i with
        | zero =>
          have e0 : (#[v] ++ args.map a.eval)[0] = v := by rw [Array.getElem_append_left (by simp)]; rfl
          rw [e0]
          exact .pv hr
        | succ i =>
          have e1 : (#[v] ++ args.map a.eval)[i + 1] = (args.map a.eval)[i]'(by simp at hi'; simp; omega) := by
            rw [Array.getElem_append_right (by simp)]; simp
          rw [e1]
          exact hrel i (by simpa using hi) _
    · cases ht
  · cases ht

theorem goCall_eq {o : Op} {c : Call} (h : goCall o = some c) : o = .call c := by
  unfold goCall at h
  split at h
  · split at h
    · injection h with h; rw [h]
    · cases h
  · cases h

theorem pop1_ok {imm : TypeId → Bool} {o : Oper} {K : PS → Prop} {Q : Exit → Act → World → Prop} (h : Inv F g s a w) (hp : pop1 P imm F.nt s o K) : o.wp P a w (Sees F K) Q := by
  unfold pop1 at hp
  split at hp
  · rename_i c hgo
    have hop := goCall_eq hgo
    split at hp
    · rename_i f l hl
      obtain ⟨hfit, hd, hc⟩ := hp
      obtain ⟨vs, hrun, hl1, hl2⟩ := pcallOf_ok h hop hl hfit
      have hcall := hc g.im g.mt w vs h.globOf hl1 hl2
      unfold Oper.wp
      rw [hrun]
      refine hcall.mono fun e w' hx => ?_
      obtain ⟨v, r, gl', im', rfl, hq, hrr, hext, hgl⟩ := hx
      have h1 := h.called hext hgl
      obtain ⟨g', hg'⟩ := h1.answered (n := w.heap.size) h.base (fun j b hj => im_lt h (h.ows j b hj).2) (fun j b hj => heap_lt (h.mts j b hj).1.choose_spec) (fun j b hj => by
        obtain ⟨_, _, _, _, _, _, _, e2, _⟩ := h.locs j b hj; exact heap_lt e2) hrr hd
      exact ⟨_, g', hg', hq⟩
    · exact hp.elim
  · split at hp
    · rename_i c v eff hst
      exact did_wp (pstep_ok h hst hp.1 hp.2.1) hp.2.2
    · exact hp.elim

theorem pwant_ok {ops : Array Oper} {o : Oper} {b : Bool} (h : Inv F g s a w) (hp : pwant ops s o = some b) : Region.wanted o (yielded ops a.tmps) = b := by
  unfold pwant at hp
  unfold Region.wanted
  split at hp
  · rename_i hg; rw [hg]; simpa using hp
  · rename_i j want hg
    rw [hg]
    simp only [yielded]
    cases hd : (ops[j]?).bind (·.dst) with
    | none => rw [hd] at hp; simp at hp
    | some t =>
      rw [hd] at hp
      simp only [Option.map_some, Option.bind_some] at hp ⊢
      split at hp
      · rename_i x heq
        injection heq with heq
        have hv := rep_bool (srel_pv (h.env t _ heq))
        have hlt : t < a.tmps.size := by
          rcases Nat.lt_or_ge t a.tmps.size with h1 | h1
          · exact h1
          · simp [h1, undef] at hv
        have hv2 : a.tmps[t]? = some (.bool x) := by
          simp [hlt] at hv; simp [hlt, hv]
        rw [hv2]
        injection hp with hp <;> simpa using hp
      · rename_i heq
        injection heq with heq
        have hv := h.env t _ heq
        injection hp with hp; subst hp
        generalize hz : a.tmps.getD t undef = z at hv
        cases hv
        cases hq : a.tmps[t]? with
        | none => first | rfl | simp
        | some y =>
          have : y = undef := by
            have h1 := (Array.getElem?_eq_some_iff.1 hq)
            obtain ⟨hlt, hy⟩ := h1
            simp [hlt] at hz
            rw [← hy, hz]
          subst this; simp [undef]
      · cases hp

theorem pops_ok {imm : TypeId → Bool} {ops : Array Oper} {Q : Exit → Act → World → Prop} : ∀ (l : List Oper) {g : Gh} {s : PS} {a : Act} {w : World} {K : PS → Prop}, Inv F g s a w → pops P imm F.nt ops l s K → (∀ a' w', Sees F K a' w' → Q .normal a' w') → wpList P ops Q l a w
  | [], g, s, a, w, K, h, hp, hQ => hQ a w ⟨s, g, h, hp⟩
  | o :: rest, g, s, a, w, K, h, hp, hQ => by
    simp only [pops, pone] at hp
    unfold wpList
    split at hp
    · rename_i hw
      rw [if_pos (pwant_ok h hw)]
      refine .inl (Oper.wp_mono (fun a' w' hs => ?_) (pop1_ok (Q := Q) h hp))
      obtain ⟨s', g', hi, hk⟩ := hs
      exact pops_ok rest hi hk hQ
    · rename_i hw
      rw [if_neg (by rw [pwant_ok h hw]; simp)]
      exact pops_ok rest (h.put hp.1 .undef) hp.2 hQ
    · exact hp.elim

theorem Rep.i64 {I : Nat → Nat} {v : Value} {n : Int} (h : Rep I w v (.int .i64 n)) : v = .int .i64 n := by cases h; rfl

/-- A value as one cell of a box: a number is what it is. -/
def loosen : Value → PV
  | .int .i64 n => .int .i64 n
  | _ => .any
theorem loosen_scalar (v : Value) : (loosen v).scalar = true := by unfold loosen; split <;> rfl
theorem loosen_rep {I : Nat → Nat} {v : Value} (h : v.oneCell' = true) : Rep I w v (loosen v) := by
  unfold loosen; split
  · exact .int _ _
  · exact .any _ h

/-- A block that is new since the call becomes a local box. -/
theorem Inv.adopt (h : Inv F g s a w) {w' : World} {im' : Nat → Nat} {v : Value} {rows : List (List PV)} (he : Ext g.im g.mt w im' w') (hg : Glob im' g.mt s.gl w') (hr : RRel im' g.mt w' w.heap.size v (.fresh rows)) (hne : rows ≠ []) {d : Nat} (hd : d < F.nt) (hloc : s.loc d = none) :
    ∃ cells, Adopted rows cells ∧ ∃ g', Inv F g' { s with env := upd s.env d (some (.lrow d rows.length)), loc := upd s.loc d (some cells) } (a.put (some d) v) w' := by
  have h1 : Inv F g s a w' := h.called (im' := g.im) ⟨he.os, he.tape, he.output, he.size, fun _ _ => rfl, he.blk⟩ ⟨fun b hb => h.imz b (Nat.le_trans he.size hb), fun k b hk => ⟨(hg.mts k b hk).1, (h.mts k b hk).2⟩, hg.inj, hg.bnd, hg.tab⟩
  cases hr with
  | freshFull hp => exact absurd rfl hne
  | fresh hb hp hat =>
    rename_i b
    obtain ⟨cap, c, t, es, e1, e2, e3, e4, e5, e6, e7, e8, e9⟩ := hat
    obtain ⟨ad, cap2, vals, hval, _, hvl, hcell, _, hone, _, hrep⟩ := rep_flat hp (size := es) e9
    rw [e1] at hval; injection hval with ha _ hc2; subst ha; subst hc2
    have hd' : g.lc d = none := by
      cases e : g.lc d with
      | none => rfl
      | some b' => obtain ⟨_, _, _, cells, _, _, f1, _⟩ := h.locs d b' e; rw [hloc] at f1; cases f1
    have hsz : rows.length * es ≤ c.size := by rw [e3]; exact Nat.mul_le_mul_right _ e5
    have hcv : ∀ i (hi : i < vals.length) (hi' : i < c.size), c[i] = vals[i] := fun i hi hi' => by
      have := hcell ⟨b, 0, none⟩ rfl i vals[i] (by simp [hi])
      have hadd : (⟨b, 0, none⟩ : Addr).add i = ⟨b, i, none⟩ := by unfold Addr.add; split <;> simp_all
      rw [hadd, cell_of_heap e2, Array.getElem?_eq_getElem hi'] at this
      injection this
    refine ⟨vals.map loosen, ⟨fun es' hw => ?_, fun hi p hp => ?_⟩, ?_⟩
    · have hee : es = es' := by rw [← e9 _ (List.getElem_mem e7)]; exact hw _ (List.getElem_mem e7)
      rw [List.length_map, hvl, hee]
    · obtain ⟨u, hu, rfl⟩ := List.mem_map.1 hp
      obtain ⟨k, hk, rfl⟩ := List.mem_iff_getElem.1 hu
      have hk2 : k < rows.length * es := by rw [← hvl]; exact hk
      have q1 : k / es < rows.length := (Nat.div_lt_iff_lt_mul e8).2 hk2
      have q2 : k % es < es := Nat.mod_lt _ e8
      have q3 : k % es < (rows[k / es]).length := by rw [e9 _ (List.getElem_mem q1)]; exact q2
      have q4 := hrep (k / es) q1 (k % es) q3
      have q5 : k / es * es + k % es = k := by rw [Nat.mul_comm]; exact Nat.div_add_mod k es
      rw [q5] at q4
      obtain ⟨n, hn⟩ := hi _ (List.getElem_mem q1) _ (List.getElem_mem q3)
      rw [hn] at q4
      have q6 := q4.i64
      rw [List.getD_eq_getElem?_getD, List.getElem?_eq_getElem hk, Option.getD_some] at q6
      exact ⟨n, by rw [q6]; rfl⟩
    · have hold : ∀ d' b', g.lc d' = some b' → b' < w.heap.size := fun d' b' e => by
        obtain ⟨_, _, _, _, _, _, _, f2, _⟩ := h.locs d' b' e
        exact heap_lt f2
      have him : g.im b = 0 := h.imz b hb
      have h2 : Inv F { g with lc := upd g.lc d (some b) } { s with loc := upd s.loc d (some (vals.map loosen)) } a w' := by
        refine { h1 with locs := ?_, lcinj := ?_, env := ?_, mts := h1.mts }
        · intro d' b' hd2
          simp only [upd] at hd2
          split at hd2
          · rename_i e; subst e
            injection hd2 with e; subst e
            refine ⟨Nat.le_trans h.base hb, him, fun k hk => ?_, vals.map loosen, c, t, by simp, e2, by rw [List.length_map, hvl]; exact hsz, fun p hp => ?_, fun i hi hi' => ?_⟩
            · obtain ⟨⟨_, ht⟩, _⟩ := h.mts k _ hk
              exact absurd (heap_lt ht) (by omega)
            · obtain ⟨u, _, rfl⟩ := List.mem_map.1 hp
              exact loosen_scalar u
            · have hi2 : i < vals.length := by simpa using hi
              rw [hcv i hi2 hi', List.getElem_map]
              exact loosen_rep (hone _ (List.getElem_mem hi2))
          · rename_i e
            obtain ⟨f1, f2, f3, cells', c', t', g1, r⟩ := h1.locs d' b' hd2
            exact ⟨f1, f2, f3, cells', c', t', by simpa [upd, e] using g1, r⟩
        · intro d1 d2 b' k1 k2
          simp only [upd] at k1 k2
          split at k1 <;> split at k2
          · rename_i e1 e2; rw [e1, e2]
          · rename_i e1 e2; injection k1 with e; have := hold d2 _ k2; omega
          · rename_i e1 e2; injection k2 with e; have := hold d1 _ k1; omega
          · exact h.lcinj d1 d2 b' k1 k2
        · intro t' u hu
          refine (h1.env t' u hu).mono (Keeps.refl _ _) (fun _ _ h => h) (fun k b' hk => ?_) (fun _ _ h => h) (fun _ _ _ => ⟨rfl, rfl⟩)
          show upd g.lc d _ k = some b'
          rw [upd_ne _ _ (fun e => by subst e; rw [hd'] at hk; cases hk)]
          exact hk
      have h3 := h2.put (d := some d) (v := v) (x := .lrow d rows.length) hd (by rw [e1]; exact .lrow d _ b cap (by simp))
      exact ⟨_, h3⟩

theorem padoptC_ok {o : Oper} {c : Call} {K : PS → Prop} {Q : Exit → Act → World → Prop} (h : Inv F g s a w) (hgo : goCall o.op = some c) (hp : padoptC P F.nt s o.dst c K) : o.wp P a w (Sees F K) Q := by
  have hop := goCall_eq hgo
  unfold padoptC at hp
  split at hp
  · rename_i d f l hdst hl
    obtain ⟨hfit, hd, hloc, rows, hne, hc, hK⟩ := hp
    obtain ⟨vs, hrun, hl1, hl2⟩ := pcallOf_ok h hop hl hfit
    have hcall := hc g.im g.mt w vs h.globOf hl1 hl2
    unfold Oper.wp
    rw [hrun]
    refine hcall.mono fun e w' hx => ?_
    obtain ⟨v, r, gl', im', rfl, ⟨rfl, rfl⟩, hrr, hext, hgl⟩ := hx
    obtain ⟨cells, hcells, g', hg'⟩ := h.adopt hext hgl hrr hne hd hloc
    exact ⟨_, g', by rw [hdst]; exact hg', hK cells hcells⟩
  · exact hp.elim

theorem padopt_ok {imm : TypeId → Bool} {ops : Array Oper} {Q : Exit → Act → World → Prop} : ∀ (l : List Oper) {g : Gh} {s : PS} {a : Act} {w : World} {K : PS → Prop}, Inv F g s a w → padopt P imm F.nt ops l s K → (∀ a' w', Sees F K a' w' → Q .normal a' w') → wpList P ops Q l a w
  | [], g, s, a, w, K, h, hp, hQ => hp.elim
  | o :: rest, g, s, a, w, K, h, hp, hQ => by
    unfold padopt at hp
    split at hp
    · rename_i c hgo hgd
      unfold wpList
      rw [if_pos (by unfold Region.wanted; rw [hgd])]
      refine .inl (Oper.wp_mono (fun a' w' hs => ?_) (padoptC_ok (Q := Q) h hgo hp))
      obtain ⟨s', g', hi, hk⟩ := hs
      exact pops_ok rest hi hk hQ
    · unfold pone at hp
      unfold wpList
      split at hp
      · rename_i hw
        rw [if_pos (pwant_ok h hw)]
        refine .inl (Oper.wp_mono (fun a' w' hs => ?_) (pop1_ok (Q := Q) h hp))
        obtain ⟨s', g', hi, hk⟩ := hs
        exact padopt_ok rest hi hk hQ
      · rename_i hw
        rw [if_neg (by rw [pwant_ok h hw]; simp)]
        exact padopt_ok rest (h.put hp.1 .undef) hp.2 hQ
      · exact hp.elim

end
end Go.Proofs.YtbekdlgkoleblaaDoor
