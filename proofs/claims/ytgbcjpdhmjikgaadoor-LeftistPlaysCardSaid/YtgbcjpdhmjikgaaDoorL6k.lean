/- LeftistPlays. -/
import Derived.Test.YtgbcjpdhmjikgaaDoorA2
import Derived.Test.YtgbcjpdhmjikgaaDoorJ1
import Derived.Test.YtgbcjpdhmjikgaaDoorL6f
namespace Go.Proofs.YtgbcjpdhmjikgaaDoor
set_option linter.unusedSimpArgs false
set_option linter.unusedVariables false

def pC (t : LT) : List PV := [t.pt]
structure LT.small (t : LT) : Prop where
  len : t.sz ≤ 121
  wf : t.ok

theorem wideP (l : List LT) : Wide 1 (l.map pC) := by
  intro x hx
  obtain ⟨a, _, rfl⟩ := List.mem_map.1 hx
  rfl
theorem wideHc (l : List LT) : Wide 3 (l.map LT.hc) := by
  intro x hx
  obtain ⟨a, _, rfl⟩ := List.mem_map.1 hx
  exact hc_len a
theorem small_ins {t : LT} (h : t.small) (x : El) (hx : inE x) (hl : t.sz ≤ 120) : (t.ins x.1 x.2).1.small :=
  ⟨by rw [ins_sz]; omega, ok_els.2 fun y hy => by
    rcases List.mem_cons.1 ((ins_perm t x.1 x.2).subset hy) with rfl | hy
    · exact hx
    · exact ok_els.1 h.wf y hy⟩
theorem small_meld {t u : LT} (h : t.small) (g : u.small) (hl : t.sz + u.sz ≤ 120) : (LT.meld t u).1.small :=
  ⟨by rw [meldSz]; omega, ok_els.2 fun y hy => by
    rcases List.mem_append.1 ((meld_perm t u).subset hy) with hy | hy
    · exact ok_els.1 h.wf y hy
    · exact ok_els.1 g.wf y hy⟩
theorem small_pop {t : LT} (h : t.small) : t.pop.1.small := by
  cases t with
  | nil => exact h
  | node p i l r =>
    have hl := h.len
    simp only [LT.sz] at hl
    refine ⟨by show (LT.meld l r).1.sz ≤ 121; rw [meldSz]; omega, ok_els.2 fun y hy => ?_⟩
    rcases List.mem_append.1 ((meld_perm l r).subset hy) with hy | hy
    · exact ok_els.1 h.wf.2.2.1 y hy
    · exact ok_els.1 h.wf.2.2.2 y hy
theorem small_of (l : List El) (w : ∀ x ∈ l, inE x) (hl : l.length ≤ 40) : (ofT l).small :=
  ⟨by rw [ofT_sz]; omega, ok_els.2 fun x hx => w x ((ofT_perm l).subset hx)⟩
theorem small_snoc {l : List LT} (h : ∀ x ∈ l, x.small) {y : LT} (hy : y.small) : ∀ x ∈ l ++ [y], LT.small x := by
  intro x hx
  rcases List.mem_append.1 hx with hx | hx
  · exact h x hx
  · rw [List.mem_singleton.1 hx]; exact hy
theorem few_facts' {l : List Act6} (h : fewB l = true) : l.length ≤ 30 ∧ ∀ c ∈ l, c.l.length ≤ 40 := by
  unfold fewB at h
  rw [Bool.and_eq_true, List.all_eq_true] at h
  exact ⟨of_decide_eq_true h.2, fun c hc => of_decide_eq_true (h.1 c hc)⟩
theorem wr_since (x : Int) : IntKind.i64.wrap (x - IntKind.i64.wrap x) = 0 := by
  rw [wrap_def x, wrap_def]; split <;> split <;> omega

set_option maxHeartbeats 16000000 in
set_option maxRecDepth 4000 in
theorem plays_ok (l : List Act6) (hlen : l.length ≤ 9223372036854775807) (wl : ∀ x ∈ l, x.ok) (gl : Nat → Int × Int) : PCalls Tryd.prog 12 [.pv (.list (l.map Act6.cells))] gl fun r _ => r = .pv (.bool true) := by
  have wide := wide6 l
  have w1 : ∀ p : PV, Wide 1 [[p]] := fun p x hx => by rw [List.mem_singleton.1 hx]; rfl
  have w3 : ∀ t : LT, Wide 3 [t.hc] := fun t x hx => by rw [List.mem_singleton.1 hx]; exact hc_len t
  have hw0 : IntKind.i64.wrap 0 = 0 := wr _ (by omega) (by omega)
  refine pcalls_of_pwp (cutImm [7, 14, 16, 18, 21, 22, 30, 35, 40, 47, 55, 59] noImm) Tryd.func12 rfl (by simp) mixed (by kernel_rfl) fun gn => ?_
  simp (config := { maxSteps := 10000000 })
  refine (awake_ok _).mono fun r gl' h => ?_
  subst h
  simp
  refine (few_ok l hlen _).use ?_
  by_cases hf : fewB l = true
  · simp [hf]
    have hff := few_facts' hf
    refine pcut_at [(0, .pv (.list (l.map Act6.cells)))] [] gl' gn (by simp) ?_
    simp
    refine (new_ok _).use ?_
    simp
    refine pwp_loopS (α := Nat × List LT × (Nat → Int × Int)) (fun s => s.1 ≤ l.length ∧ s.2.1.length = s.1 + 1 ∧ ∀ h ∈ s.2.1, h.small)
      (fun s => [(0, .pv (.list (l.map Act6.cells))), (5, .mtr gn 0), (6, .pv (.int .i64 (IntKind.i64.wrap ((s.2.2 gn).1 + (s.2.2 gn).2)))), (7, .own 7 (s.2.1.map pC)), (8, .own 8 (s.2.1.map LT.hc)), (9, .pv (.int .i64 s.1))]) (fun _ => []) (fun s => s.2.2) (fun _ => gn + 1) (fun s => l.length - s.1)
      (0, [.nil], upd gl' gn (0, 0)) ⟨by simp, by simp, fun h hh => by rw [List.mem_singleton.1 hh]; exact ⟨by simp [LT.sz], trivial⟩⟩ (by simp [pC, LT.hc, LT.pt, hw0]) ?_
    rintro ⟨k, hs, gs⟩ ⟨hk, hsl, hok⟩
    simp only at hk hsl hok
    by_cases hlt : k < l.length
    · simp (config := { maxSteps := 10000000 }) [hlt]
      have hc' : ∃ c, l[k] = c := ⟨_, rfl⟩
      obtain ⟨c, hc⟩ := hc'
      have hcm : c ∈ l := by rw [← hc]; exact List.getElem_mem hlt
      have wc := wl c hcm
      have hcl := hff.2 c hcm
      have hll := hff.1
      have ha' : ∃ a, c.a % hs.length = a := ⟨_, rfl⟩
      obtain ⟨a, ha⟩ := ha'
      have hal : a < hs.length := by rw [← ha]; exact Nat.mod_lt _ (by omega)
      have hb' : ∃ b, c.b % hs.length = b := ⟨_, rfl⟩
      obtain ⟨b, hb⟩ := hb'
      have hbl : b < hs.length := by rw [← hb]; exact Nat.mod_lt _ (by omega)
      have wca := wc.2.1
      have wcb := wc.2.2.1
      have hwa : IntKind.i64.wrap (c.a : Int) = c.a := wr _ (by omega) (by omega)
      have hwb : IntKind.i64.wrap (c.b : Int) = c.b := wr _ (by omega) (by omega)
      have hia : (c.a : Int).tmod (hs.length : Int) = (a : Int) := by rw [← Int.ofNat_tmod, ha]
      have hib : (c.b : Int).tmod (hs.length : Int) = (b : Int) := by rw [← Int.ofNat_tmod, hb]
      have hne : hs ≠ [] := by intro e; rw [e] at hsl; simp at hsl
      have hA' : ∃ A, hs[a] = A := ⟨_, rfl⟩
      obtain ⟨A, hA⟩ := hA'
      have hB' : ∃ B, hs[b] = B := ⟨_, rfl⟩
      obtain ⟨B, hB⟩ := hB'
      have okA := hok A (by rw [← hA]; exact List.getElem_mem hal)
      have okB := hok B (by rw [← hB]; exact List.getElem_mem hbl)
      have lA := okA.len
      have lB := okB.len
      have cA := hc_len A
      have cB := hc_len B
      have hsum : IntKind.i64.wrap ((A.sz : Int) + B.sz) = ((A.sz + B.sz : Nat) : Int) := wr _ (by omega) (by omega)
      refine pcut_at [(0, .pv (.list (l.map Act6.cells))), (5, .mtr gn 0), (6, .pv (.int .i64 (IntKind.i64.wrap ((gs gn).1 + (gs gn).2)))), (7, .own 7 (hs.map pC)), (8, .own 8 (hs.map LT.hc)), (9, .pv (.int .i64 k))] [] gs (gn + 1) (by simp) ?_
      simp [hlt, wide, hc, Act6.cells, hwa, hwb, hia, hib, hne]
      refine pcut_at [(0, .pv (.list (l.map Act6.cells))), (5, .mtr gn 0), (6, .pv (.int .i64 (IntKind.i64.wrap ((gs gn).1 + (gs gn).2)))), (7, .own 7 (hs.map pC)), (8, .own 8 (hs.map LT.hc)), (9, .pv (.int .i64 k)), (10, .pv (.int .i64 a)), (11, .pv (.int .i64 b))] [] gs (gn + 1) (by simp) ?_
      simp [hal, hbl, hA, hB, wideHc, cA, cB]
      refine (refSize_ok A _ (by omega)).use ?_
      simp [hal, hbl, hA, hB, wideHc, cA, cB]
      refine (refSize_ok B _ (by omega)).use ?_
      by_cases hbig : 120 < A.sz + B.sz
      · have hbig' : (120 : Int) < (A.sz : Int) + B.sz := by omega
        simp [hsum, hbig']
      · have hbig' : ¬ (120 : Int) < (A.sz : Int) + B.sz := by omega
        simp [hsum, hbig']
        refine pcut_at [(0, .pv (.list (l.map Act6.cells))), (5, .mtr gn 0), (6, .pv (.int .i64 (IntKind.i64.wrap ((gs gn).1 + (gs gn).2)))), (7, .own 7 (hs.map pC)), (8, .own 8 (hs.map LT.hc)), (9, .pv (.int .i64 k)), (10, .pv (.int .i64 a)), (11, .pv (.int .i64 b))] [] gs (gn + 1) (by simp) ?_
        simp
        refine pcut_at [(0, .pv (.list (l.map Act6.cells))), (5, .mtr gn 0), (6, .pv (.int .i64 (IntKind.i64.wrap ((gs gn).1 + (gs gn).2)))), (7, .own 7 (hs.map pC)), (8, .own 8 (hs.map LT.hc)), (9, .pv (.int .i64 k)), (10, .pv (.int .i64 a)), (11, .pv (.int .i64 b)), (12, .loc 12 0), (13, .loc 13 0), (14, .pv (.int .i64 0))] [(12, [.nilp]), (13, [.int .i64 0, .int .i64 0, .list []])] gs (gn + 1) (by simp) ?_
        by_cases h0 : c.kind = 0
        · simp (config := { maxSteps := 10000000 }) [hlt, wide, hc, Act6.cells, h0]
          refine pcut_at [(0, .pv (.list (l.map Act6.cells))), (5, .mtr gn 0), (6, .pv (.int .i64 (IntKind.i64.wrap ((gs gn).1 + (gs gn).2)))), (7, .own 7 (hs.map pC)), (8, .own 8 (hs.map LT.hc)), (9, .pv (.int .i64 k)), (10, .pv (.int .i64 a)), (11, .pv (.int .i64 b)), (12, .loc 12 0), (13, .loc 13 0), (14, .pv (.int .i64 0))] [(12, [.nilp]), (13, [.int .i64 0, .int .i64 0, .list []])] gs (gn + 1) (by simp) ?_
          simp [hlt, wide, hc, Act6.cells, hal, hA, wideP, pC]
          refine (insM_ok (some gn) A c.x.1 c.x.2 (by omega) _).use ?_
          simp [hlt, wide, hc, Act6.cells, hal, hA, wideHc, cA]
          refine (refIns_ok A c.x.1 c.x.2 (by omega) _).use ?_
          have tl0 := hc_len (A.ins c.x.1 c.x.2).1
          simp [tl0]
          have okx := small_ins okA c.x wc.2.2.2.1 (by omega)
          have tl := hc_len ((A.ins c.x.1 c.x.2).1)
          have hS : IntKind.i64.wrap (IntKind.i64.wrap ((gs gn).1 + (gs gn).2) + (2 * ((A.ins c.x.1 c.x.2).2 : Int) + 1)) = IntKind.i64.wrap (((tick (some gn) (A.ins c.x.1 c.x.2).2 ((A.ins c.x.1 c.x.2).2 + 1) gs) gn).1 + ((tick (some gn) (A.ins c.x.1 c.x.2).2 ((A.ins c.x.1 c.x.2).2 + 1) gs) gn).2) := by
            rw [wr_wr_add]
            simp only [tick, upd_same]
            congr 1; omega
          have hg' : ∃ g2, tick (some gn) (A.ins c.x.1 c.x.2).2 ((A.ins c.x.1 c.x.2).2 + 1) gs = g2 := ⟨_, rfl⟩
          obtain ⟨g2, hg⟩ := hg'
          simp only [hg] at hS
          refine pcut_at [(0, .pv (.list (l.map Act6.cells))), (5, .mtr gn 0), (6, .pv (.int .i64 (IntKind.i64.wrap ((gs gn).1 + (gs gn).2)))), (7, .own 7 (hs.map pC)), (8, .own 8 (hs.map LT.hc)), (9, .pv (.int .i64 k)), (12, .loc 12 0), (13, .loc 13 0), (14, .pv (.int .i64 (2 * ((A.ins c.x.1 c.x.2).2 : Int) + 1)))] [(12, [((A.ins c.x.1 c.x.2).1).pt]), (13, ((A.ins c.x.1 c.x.2).1).hc)] g2 (gn + 1) (by simp [hg]) ?_
          simp [hS]
          refine (mSteps_ok (some gn) _).use ?_
          simp [steps, wideP, wideHc, w1, w3, tl]
          refine ⟨⟨by omega, by omega⟩, ⟨by omega, by omega⟩, k + 1, hs ++ [(A.ins c.x.1 c.x.2).1], ⟨hlt, by simp; omega, small_snoc hok okx⟩, by omega, ?_⟩
          simp [pC]
          exact wr _ (by omega) (by omega)
        · by_cases h1 : c.kind = 1
          · simp (config := { maxSteps := 10000000 }) [hlt, wide, hc, Act6.cells, h1]
            refine pcut_at [(0, .pv (.list (l.map Act6.cells))), (5, .mtr gn 0), (6, .pv (.int .i64 (IntKind.i64.wrap ((gs gn).1 + (gs gn).2)))), (7, .own 7 (hs.map pC)), (8, .own 8 (hs.map LT.hc)), (9, .pv (.int .i64 k)), (10, .pv (.int .i64 a)), (11, .pv (.int .i64 b)), (12, .loc 12 0), (13, .loc 13 0), (14, .pv (.int .i64 0))] [(12, [.nilp]), (13, [.int .i64 0, .int .i64 0, .list []])] gs (gn + 1) (by simp) ?_
            simp [hal, hbl, hA, hB, wideP, pC]
            refine (meldM_ok (some gn) A B (by omega) _).use ?_
            simp [hal, hbl, hA, hB, wideHc, cA, cB]
            refine (refMeld_ok 1000000 A B _ (by omega) (by omega)).use ?_
            have tl0 := hc_len (LT.meld A B).1
            simp [tl0]
            have okx := small_meld okA okB (by omega)
            have tl := hc_len ((LT.meld A B).1)
            have hS : IntKind.i64.wrap (IntKind.i64.wrap ((gs gn).1 + (gs gn).2) + 2 * ((LT.meld A B).2 : Int)) = IntKind.i64.wrap (((tick (some gn) (LT.meld A B).2 (LT.meld A B).2 gs) gn).1 + ((tick (some gn) (LT.meld A B).2 (LT.meld A B).2 gs) gn).2) := by
              rw [wr_wr_add]
              simp only [tick, upd_same]
              congr 1; omega
            have hg' : ∃ g2, tick (some gn) (LT.meld A B).2 (LT.meld A B).2 gs = g2 := ⟨_, rfl⟩
            obtain ⟨g2, hg⟩ := hg'
            simp only [hg] at hS
            refine pcut_at [(0, .pv (.list (l.map Act6.cells))), (5, .mtr gn 0), (6, .pv (.int .i64 (IntKind.i64.wrap ((gs gn).1 + (gs gn).2)))), (7, .own 7 (hs.map pC)), (8, .own 8 (hs.map LT.hc)), (9, .pv (.int .i64 k)), (12, .loc 12 0), (13, .loc 13 0), (14, .pv (.int .i64 (2 * ((LT.meld A B).2 : Int))))] [(12, [((LT.meld A B).1).pt]), (13, ((LT.meld A B).1).hc)] g2 (gn + 1) (by simp [hg]) ?_
            simp [hS]
            refine (mSteps_ok (some gn) _).use ?_
            simp [steps, wideP, wideHc, w1, w3, tl]
            refine ⟨⟨by omega, by omega⟩, ⟨by omega, by omega⟩, k + 1, hs ++ [(LT.meld A B).1], ⟨hlt, by simp; omega, small_snoc hok okx⟩, by omega, ?_⟩
            simp [pC]
            exact wr _ (by omega) (by omega)
          · by_cases h2 : c.kind = 2
            · simp (config := { maxSteps := 10000000 }) [hlt, wide, hc, Act6.cells, h2]
              refine pcut_at [(0, .pv (.list (l.map Act6.cells))), (5, .mtr gn 0), (6, .pv (.int .i64 (IntKind.i64.wrap ((gs gn).1 + (gs gn).2)))), (7, .own 7 (hs.map pC)), (8, .own 8 (hs.map LT.hc)), (9, .pv (.int .i64 k)), (10, .pv (.int .i64 a)), (11, .pv (.int .i64 b)), (12, .loc 12 0), (13, .loc 13 0), (14, .pv (.int .i64 0))] [(12, [.nilp]), (13, [.int .i64 0, .int .i64 0, .list []])] gs (gn + 1) (by simp) ?_
              simp [hal, hA, wideP, pC]
              refine (popM_ok (some gn) A (by omega) _).use ?_
              simp [hal, hA, wideHc, cA]
              refine (refPop_ok A (by omega) _).use ?_
              have tl0 := hc_len A.pop.1
              simp [tl0, hal, hA, wideHc, cA]
              refine (refSize_ok A _ (by omega)).use ?_
              have hsm := some_iff A
              simp [hsm]
              have okx := small_pop okA
              have tl := hc_len (A.pop.1)
              have hS : IntKind.i64.wrap (IntKind.i64.wrap ((gs gn).1 + (gs gn).2) + 2 * (A.pop.2 : Int)) = IntKind.i64.wrap (((tick (some gn) A.pop.2 A.pop.2 gs) gn).1 + ((tick (some gn) A.pop.2 A.pop.2 gs) gn).2) := by
                rw [wr_wr_add]
                simp only [tick, upd_same]
                congr 1; omega
              have hg' : ∃ g2, tick (some gn) A.pop.2 A.pop.2 gs = g2 := ⟨_, rfl⟩
              obtain ⟨g2, hg⟩ := hg'
              simp only [hg] at hS
              refine pcut_at [(0, .pv (.list (l.map Act6.cells))), (5, .mtr gn 0), (6, .pv (.int .i64 (IntKind.i64.wrap ((gs gn).1 + (gs gn).2)))), (7, .own 7 (hs.map pC)), (8, .own 8 (hs.map LT.hc)), (9, .pv (.int .i64 k)), (12, .loc 12 0), (13, .loc 13 0), (14, .pv (.int .i64 (2 * (A.pop.2 : Int))))] [(12, [(A.pop.1).pt]), (13, (A.pop.1).hc)] g2 (gn + 1) (by simp [hg]) ?_
              simp [hS]
              refine (mSteps_ok (some gn) _).use ?_
              simp [steps, wideP, wideHc, w1, w3, tl]
              refine ⟨⟨by omega, by omega⟩, ⟨by omega, by omega⟩, k + 1, hs ++ [A.pop.1], ⟨hlt, by simp; omega, small_snoc hok okx⟩, by omega, ?_⟩
              simp [pC]
              exact wr _ (by omega) (by omega)
            · have e0 : ((c.kind : Int) == 0) = false := beq_false_of_ne (by omega)
              have e1 : ((c.kind : Int) == 1) = false := beq_false_of_ne (by omega)
              have e2 : ((c.kind : Int) == 2) = false := beq_false_of_ne (by omega)
              simp (config := { maxSteps := 10000000 }) [hlt, wide, hc, Act6.cells, e0, e1, e2, h0, h1, h2]
              refine pcut_at [(0, .pv (.list (l.map Act6.cells))), (5, .mtr gn 0), (6, .pv (.int .i64 (IntKind.i64.wrap ((gs gn).1 + (gs gn).2)))), (7, .own 7 (hs.map pC)), (8, .own 8 (hs.map LT.hc)), (9, .pv (.int .i64 k)), (12, .loc 12 0), (13, .loc 13 0), (14, .pv (.int .i64 0))] [(12, [.nilp]), (13, [.int .i64 0, .int .i64 0, .list []])] gs (gn + 1) (by simp) ?_
              simp [hlt, wide, hc, Act6.cells]
              refine (ofM_ok (some gn) c.l (by omega) _).use ?_
              have hgo : (ofK (some gn) gs c.l).2 = upd gs gn ((gs gn).1 + (cntT .nil c.l).1, (gs gn).2 + (cntT .nil c.l).2) := ofK_cnt gn c.l .nil gs
              simp only [hgo]
              simp
              refine pwp_loopS (α := Nat) (fun j => j ≤ c.l.length) (fun j => [(0, .pv (.list (l.map Act6.cells))), (5, .mtr gn 0), (6, .pv (.int .i64 (IntKind.i64.wrap ((gs gn).1 + (gs gn).2)))), (7, .own 7 (hs.map pC)), (8, .own 8 (hs.map LT.hc)), (9, .pv (.int .i64 k)), (12, .loc 12 0), (13, .loc 13 0), (14, .pv (.int .i64 (IntKind.i64.wrap ((cntT .nil (c.l.take j)).1 + (cntT .nil (c.l.take j)).2)))), (23, .pv (.int .i64 j))]) (fun j => [(12, [(ofT c.l).pt]), (13, (ofT (c.l.take j)).hc)]) (fun _ => upd gs gn ((gs gn).1 + (cntT .nil c.l).1, (gs gn).2 + (cntT .nil c.l).2)) (fun _ => gn + 1) (fun j => c.l.length - j) 0 (by simp) (by simp [cntT, ofT, LT.hc, hw0]) ?_
              rintro j hj
              by_cases hjl : j < c.l.length
              · have tl1 := hc_len (ofT (c.l.take j))
                simp [hlt, wide, hc, Act6.cells, hjl, eC, wide2, tl1]
                have hz := ofT_sz (c.l.take j)
                have hz2 := List.length_take_le j c.l
                refine (refIns_ok (ofT (c.l.take j)) c.l[j].1 c.l[j].2 (by omega) _).use ?_
                have tl0 := hc_len ((ofT (c.l.take j)).ins c.l[j].1 c.l[j].2).1
                simp [tl0, tl1]
                refine ⟨j + 1, hjl, by omega, ⟨?_, wr _ (by omega) (by omega)⟩, ?_⟩
                · rw [wr_wr_add, cnt_next c.l j hjl]; congr 1; simp only; omega
                · rw [ofT_next c.l j hjl, List.drop_of_length_le (by omega), List.append_nil]
              · simp [hlt, wide, hc, Act6.cells, hjl]
                have hjt : c.l.take j = c.l := List.take_of_length_le (by omega)
                simp only [hjt]
                have okx := small_of c.l wc.2.2.2.2 hcl
                have tl := hc_len (ofT c.l)
                have hS : IntKind.i64.wrap (IntKind.i64.wrap ((gs gn).1 + (gs gn).2) + IntKind.i64.wrap ((cntT .nil c.l).1 + (cntT .nil c.l).2)) = IntKind.i64.wrap (((upd gs gn ((gs gn).1 + (cntT .nil c.l).1, (gs gn).2 + (cntT .nil c.l).2)) gn).1 + ((upd gs gn ((gs gn).1 + (cntT .nil c.l).1, (gs gn).2 + (cntT .nil c.l).2)) gn).2) := by
                  rw [wr_add_wr]
                  simp only [upd_same]
                  congr 1; omega
                have hg' : ∃ g2, upd gs gn ((gs gn).1 + (cntT .nil c.l).1, (gs gn).2 + (cntT .nil c.l).2) = g2 := ⟨_, rfl⟩
                obtain ⟨g2, hg⟩ := hg'
                simp only [hg] at hS
                refine pcut_at [(0, .pv (.list (l.map Act6.cells))), (5, .mtr gn 0), (6, .pv (.int .i64 (IntKind.i64.wrap ((gs gn).1 + (gs gn).2)))), (7, .own 7 (hs.map pC)), (8, .own 8 (hs.map LT.hc)), (9, .pv (.int .i64 k)), (12, .loc 12 0), (13, .loc 13 0), (14, .pv (.int .i64 (IntKind.i64.wrap ((cntT .nil c.l).1 + (cntT .nil c.l).2))))] [(12, [(ofT c.l).pt]), (13, (ofT c.l).hc)] g2 (gn + 1) (by simp [hg]) ?_
                simp [hS]
                refine (mSteps_ok (some gn) _).use ?_
                simp [steps, wideP, wideHc, w1, w3, tl]
                refine ⟨⟨by omega, by omega⟩, ⟨by omega, by omega⟩, k + 1, hs ++ [ofT c.l], ⟨hlt, by simp; omega, small_snoc hok okx⟩, by omega, ?_⟩
                simp [pC]
                exact wr _ (by omega) (by omega)
    · simp (config := { maxSteps := 10000000 }) [hlt]
      have hll := hff.1
      refine pwp_loopS (α := Nat) (fun j => j ≤ hs.length) (fun j => [(5, .mtr gn 0), (7, .pv (.list (hs.map pC))), (8, .pv (.list (hs.map LT.hc))), (26, .pv (.int .i64 j))]) (fun _ => []) (fun _ => gs) (fun _ => gn + 1) (fun j => hs.length - j) 0 (by simp) (by simp) ?_
      rintro j hj
      by_cases hjl : j < hs.length
      · simp [hjl]
        have hA' : ∃ A, hs[j] = A := ⟨_, rfl⟩
        obtain ⟨A, hA⟩ := hA'
        have okA := hok A (by rw [← hA]; exact List.getElem_mem hjl)
        have lA := okA.len
        have cA := hc_len A
        have hsm := some_iff A
        refine pcut_at [(5, .mtr gn 0), (7, .pv (.list (hs.map pC))), (8, .pv (.list (hs.map LT.hc))), (26, .pv (.int .i64 j))] [] gs (gn + 1) (by simp) ?_
        simp
        refine (mSteps_ok (some gn) _).use ?_
        simp [steps, hjl, hA, wideP, pC]
        refine (minM_ok (some gn) A _).use ?_
        simp [hjl, hA, wideHc, cA]
        refine (refMin_ok A _).use ?_
        simp [hjl, hA, wideHc, cA]
        refine (refSize_ok A _ (by omega)).use ?_
        simp
        refine pcut_at [(5, .mtr gn 0), (7, .pv (.list (hs.map pC))), (8, .pv (.list (hs.map LT.hc))), (26, .pv (.int .i64 j)), (27, .pv (.int .i64 (IntKind.i64.wrap ((gs gn).1 + (gs gn).2)))), (28, .loc 28 0), (29, .pv (.bool A.some?)), (30, .loc 30 0), (31, .pv (.int .i64 0)), (32, .pv (.int .i64 A.sz))]
          [(28, [.int .i64 A.hd.1, .int .i64 A.hd.2]), (30, [.int .i64 A.hd.1, .int .i64 A.hd.2])] gs (gn + 1) (by simp) ?_
        simp [hjl, hA, wideP, pC]
        refine (showN_ok A _ okA.wf (by omega)).use ?_
        simp [hjl, hA, wideHc, cA]
        refine (refShow_ok A _ okA.wf (by omega)).use ?_
        simp [hjl, hA, wideP, pC]
        refine (sizeN_ok A _).use ?_
        simp [hsm, pairEq]
        refine (mSince_ok (some gn) _ _).use ?_
        simp [wr_since]
        exact ⟨j + 1, hjl, by omega, wr _ (by omega) (by omega)⟩
      · simp [hjl]
  · have hf' : fewB l = false := by simpa using hf
    simp [hf']
end Go.Proofs.YtgbcjpdhmjikgaaDoor
