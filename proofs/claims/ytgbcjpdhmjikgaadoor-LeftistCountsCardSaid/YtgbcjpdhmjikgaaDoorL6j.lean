/- LeftistCounts. -/
import Derived.Test.YtgbcjpdhmjikgaaDoorA2
namespace Go.Proofs.YtgbcjpdhmjikgaaDoor
set_option linter.unusedSimpArgs false
set_option linter.unusedVariables false

/-- A heap, and the row in order that it is. -/
structure HS where
  t : LT
  s : List El
structure HS.ok (h : HS) : Prop where
  is : Is h.t h.s
  srt : Srt h.s
  len : h.s.length ≤ 121
  wf : ∀ x ∈ h.s, inE x
def hC (h : HS) : List PV := [h.t.pt]
def sC (h : HS) : List PV := [.list (h.s.map eC)]

theorem wideH (l : List HS) : Wide 1 (l.map hC) := by
  intro x hx
  obtain ⟨a, _, rfl⟩ := List.mem_map.1 hx
  rfl
theorem wideS (l : List HS) : Wide 1 (l.map sC) := by
  intro x hx
  obtain ⟨a, _, rfl⟩ := List.mem_map.1 hx
  rfl

theorem few_facts {l : List Act6} (h : fewB l = true) : l.length ≤ 30 ∧ ∀ c ∈ l, c.l.length ≤ 40 := by
  unfold fewB at h
  rw [Bool.and_eq_true, List.all_eq_true] at h
  exact ⟨of_decide_eq_true h.2, fun c hc => of_decide_eq_true (h.1 c hc)⟩

theorem HS.put {h : HS} (k : h.ok) (x : El) (hx : inE x) (hl : h.s.length ≤ 120) : HS.ok ⟨(h.t.ins x.1 x.2).1, putL h.s x⟩ :=
  ⟨(k.is.ins x.1 x.2).to (putL_perm h.s x).symm, putL_srt _ _ k.srt, by show (putL h.s x).length ≤ 121; rw [putL_len]; omega, fun y hy => by
    rcases List.mem_cons.1 ((putL_perm h.s x).subset hy) with rfl | hy
    · exact hx
    · exact k.wf y hy⟩
theorem HS.sum {h g : HS} (k : h.ok) (j : g.ok) (hl : h.s.length + g.s.length ≤ 120) : HS.ok ⟨(h.t.meld g.t).1, sumL h.s g.s⟩ :=
  ⟨(k.is.meld j.is).to (sumL_perm g.s h.s).symm, sumL_srt _ _ k.srt, by show (sumL h.s g.s).length ≤ 121; rw [sumL_len]; omega, fun y hy => by
    rcases List.mem_append.1 ((sumL_perm g.s h.s).subset hy) with hy | hy
    · exact k.wf y hy
    · exact j.wf y hy⟩
theorem HS.rest {h : HS} (k : h.ok) : HS.ok ⟨h.t.pop.1, h.s.tail⟩ := by
  refine ⟨?_, k.srt.sublist (List.tail_sublist _), by show h.s.tail.length ≤ 121; rw [List.length_tail]; have := k.len; omega, fun x hx => k.wf x (List.mem_of_mem_tail hx)⟩
  cases hs : h.t.some? with
  | true => have := (k.is.hd hs).2; rwa [sort_srt k.srt] at this
  | false => have := k.is.none hs; show Is h.t.pop.1 h.s.tail; rw [this.1, this.2]; exact Is.nil
theorem HS.of (l : List El) (w : ∀ x ∈ l, inE x) (hl : l.length ≤ 40) : HS.ok ⟨ofT l, sortL l⟩ :=
  ⟨(Is.of l).to (sortL_perm l).symm, sortL_srt l, by show (sortL l).length ≤ 121; rw [sortL_len]; omega, fun x hx => w x ((sortL_perm l).subset hx)⟩
theorem HS.none : HS.ok ⟨.nil, []⟩ := ⟨Is.nil, .nil, by simp, fun _ h => by cases h⟩
theorem ok_snoc {l : List HS} (h : ∀ x ∈ l, x.ok) {y : HS} (hy : y.ok) : ∀ x ∈ l ++ [y], HS.ok x := by
  intro x hx
  rcases List.mem_append.1 hx with hx | hx
  · exact h x hx
  · rw [List.mem_singleton.1 hx]; exact hy

set_option maxHeartbeats 16000000 in
set_option maxRecDepth 4000 in
theorem counts_ok (l : List Act6) (hlen : l.length ≤ 9223372036854775807) (wl : ∀ x ∈ l, x.ok) (gl : Nat → Int × Int) : PCalls Tryd.prog 4 [.pv (.list (l.map Act6.cells))] gl fun r _ => r = .pv (.bool true) := by
  have wide := wide6 l
  have w1s : ∀ p : PV, Wide 1 [[p]] := fun p x hx => by rw [List.mem_singleton.1 hx]; rfl
  refine pcalls_of_pwp (cutImm [7, 14, 16, 18, 21, 22, 26, 30, 34, 38, 44] noImm) Tryd.func4 rfl (by simp) mixed (by kernel_rfl) fun gn => ?_
  simp (config := { maxSteps := 10000000 })
  refine (awake_ok _).mono fun r gl' h => ?_
  subst h
  simp
  refine (few_ok l hlen _).use ?_
  by_cases hf : fewB l = true
  · simp [hf]
    have hff := few_facts hf
    refine pcut_at [(0, .pv (.list (l.map Act6.cells)))] [] gl' gn (by simp) ?_
    simp
    refine (new_ok _).use ?_
    simp
    refine pwp_loopS (α := Nat × List HS × (Nat → Int × Int)) (fun s => s.1 ≤ l.length ∧ s.2.1.length = s.1 + 1 ∧ ∀ h ∈ s.2.1, h.ok)
      (fun s => [(0, .pv (.list (l.map Act6.cells))), (5, .mtr gn 0), (6, .own 6 (s.2.1.map hC)), (7, .own 7 (s.2.1.map hC)), (8, .own 8 (s.2.1.map sC)), (9, .pv (.int .i64 s.1))]) (fun _ => []) (fun s => s.2.2) (fun _ => gn + 1) (fun s => l.length - s.1)
      (0, [⟨.nil, []⟩], upd gl' gn (0, 0)) ⟨by simp, by simp, fun h hh => by rw [List.mem_singleton.1 hh]; exact HS.none⟩ (by simp [hC, sC, LT.pt]) ?_
    rintro ⟨k, hs, gs⟩ ⟨hk, hsl, hok⟩
    simp only at hk hsl hok
    by_cases hlt : k < l.length
    · simp (config := { maxSteps := 10000000 }) [hlt]
      have hc' : ∃ c, l[k] = c := ⟨_, rfl⟩
      obtain ⟨c, hc⟩ := hc'
      have hcm : c ∈ l := by rw [← hc]; exact List.getElem_mem hlt
      have wc := wl c hcm
      have hcl := hff.2 c hcm
      have hll := hff.1
      have ha' : ∃ a, c.a % hs.length = a := ⟨_, rfl⟩
      obtain ⟨a, ha⟩ := ha'
      have hal : a < hs.length := by rw [← ha]; exact Nat.mod_lt _ (by omega)
      have hb' : ∃ b, c.b % hs.length = b := ⟨_, rfl⟩
      obtain ⟨b, hb⟩ := hb'
      have hbl : b < hs.length := by rw [← hb]; exact Nat.mod_lt _ (by omega)
      have wca := wc.2.1
      have wcb := wc.2.2.1
      have hwa : IntKind.i64.wrap (c.a : Int) = c.a := wr _ (by omega) (by omega)
      have hwb : IntKind.i64.wrap (c.b : Int) = c.b := wr _ (by omega) (by omega)
      have hia : (c.a : Int).tmod (hs.length : Int) = (a : Int) := by rw [← Int.ofNat_tmod, ha]
      have hib : (c.b : Int).tmod (hs.length : Int) = (b : Int) := by rw [← Int.ofNat_tmod, hb]
      have hne : hs ≠ [] := by intro e; rw [e] at hsl; simp at hsl
      refine pcut_at [(0, .pv (.list (l.map Act6.cells))), (5, .mtr gn 0), (6, .own 6 (hs.map hC)), (7, .own 7 (hs.map hC)), (8, .own 8 (hs.map sC)), (9, .pv (.int .i64 k))] [] gs (gn + 1) (by simp) ?_
      simp [hlt, wide, hc, Act6.cells, hwa, hwb, hia, hib, hne]
      have hA' : ∃ A, hs[a] = A := ⟨_, rfl⟩
      obtain ⟨A, hA⟩ := hA'
      have hB' : ∃ B, hs[b] = B := ⟨_, rfl⟩
      obtain ⟨B, hB⟩ := hB'
      have okA := hok A (by rw [← hA]; exact List.getElem_mem hal)
      have okB := hok B (by rw [← hB]; exact List.getElem_mem hbl)
      have lA := okA.len
      have lB := okB.len
      have sA := okA.is.sz
      have sB := okB.is.sz
      have hsum : IntKind.i64.wrap ((A.s.length : Int) + B.s.length) = ((A.s.length + B.s.length : Nat) : Int) := wr _ (by omega) (by omega)
      have w1h : ∀ p : PV, Wide 1 [[p]] := fun p x hx => by rw [List.mem_singleton.1 hx]; rfl
      refine pcut_at [(0, .pv (.list (l.map Act6.cells))), (5, .mtr gn 0), (6, .own 6 (hs.map hC)), (7, .own 7 (hs.map hC)), (8, .own 8 (hs.map sC)), (9, .pv (.int .i64 k)), (10, .pv (.int .i64 a)), (11, .pv (.int .i64 b))] [] gs (gn + 1) (by simp) ?_
      by_cases hbig : 120 < A.s.length + B.s.length
      · have hbig' : (120 : Int) < (A.s.length : Int) + B.s.length := by omega
        simp [hal, hbl, hA, hB, wideS, sC, hsum, hbig']
      · have hbig' : ¬ (120 : Int) < (A.s.length : Int) + B.s.length := by omega
        simp [hal, hbl, hA, hB, wideS, sC, hsum, hbig']
        refine pcut_at [(0, .pv (.list (l.map Act6.cells))), (5, .mtr gn 0), (6, .own 6 (hs.map hC)), (7, .own 7 (hs.map hC)), (8, .own 8 (hs.map sC)), (9, .pv (.int .i64 k)), (10, .pv (.int .i64 a)), (11, .pv (.int .i64 b))] [] gs (gn + 1) (by simp) ?_
        simp [hal, hA, wideS, wideH, sC, hC]
        refine pcut_at [(0, .pv (.list (l.map Act6.cells))), (5, .mtr gn 0), (6, .own 6 (hs.map hC)), (7, .own 7 (hs.map hC)), (8, .own 8 (hs.map sC)), (9, .pv (.int .i64 k)), (11, .pv (.int .i64 b)), (12, .loc 12 0), (13, .loc 13 0), (14, .pv (.list (A.s.map eC)))] [(12, [A.t.pt]), (13, [A.t.pt])] gs (gn + 1) (by simp) ?_
        by_cases h0 : c.kind = 0
        · simp (config := { maxSteps := 10000000 }) [hlt, wide, hc, Act6.cells, h0]
          refine pcut_at [(0, .pv (.list (l.map Act6.cells))), (5, .mtr gn 0), (6, .own 6 (hs.map hC)), (7, .own 7 (hs.map hC)), (8, .own 8 (hs.map sC)), (9, .pv (.int .i64 k)), (11, .pv (.int .i64 b)), (12, .loc 12 0), (13, .loc 13 0), (14, .pv (.list (A.s.map eC)))] [(12, [A.t.pt]), (13, [A.t.pt])] gs (gn + 1) (by simp) ?_
          simp [hlt, wide, hc, Act6.cells]
          refine (insM_ok (some gn) A.t c.x.1 c.x.2 (by omega) _).use ?_
          simp [hlt, wide, hc, Act6.cells]
          refine (insN_ok A.t c.x.1 c.x.2 (by omega) _).use ?_
          simp [hlt, wide, hc, Act6.cells]
          refine (put_ok A.s c.x.1 c.x.2 (by omega) _).use ?_
          simp
          have okx := HS.put okA c.x wc.2.2.2.1 (by omega)
          refine pcut_at [(0, .pv (.list (l.map Act6.cells))), (5, .mtr gn 0), (6, .own 6 (hs.map hC)), (7, .own 7 (hs.map hC)), (8, .own 8 (hs.map sC)), (9, .pv (.int .i64 k)), (12, .loc 12 0), (13, .loc 13 0), (14, .pv (.list ((putL A.s c.x).map eC)))] [(12, [((A.t.ins c.x.1 c.x.2).1).pt]), (13, [((A.t.ins c.x.1 c.x.2).1).pt])] (tick (some gn) (A.t.ins c.x.1 c.x.2).2 ((A.t.ins c.x.1 c.x.2).2 + 1) gs) (gn + 1) (by simp) ?_
          simp [wideH, wideS, w1h, w1s]
          refine ⟨⟨by omega, by omega⟩, ⟨by omega, by omega⟩, k + 1, hs ++ [⟨(A.t.ins c.x.1 c.x.2).1, putL A.s c.x⟩], ⟨hlt, by simp; omega, ok_snoc hok okx⟩, by omega, ?_⟩
          simp [hC, sC]
          exact wr _ (by omega) (by omega)
        · by_cases h1 : c.kind = 1
          · simp (config := { maxSteps := 10000000 }) [hlt, wide, hc, Act6.cells, h1]
            refine pcut_at [(0, .pv (.list (l.map Act6.cells))), (5, .mtr gn 0), (6, .own 6 (hs.map hC)), (7, .own 7 (hs.map hC)), (8, .own 8 (hs.map sC)), (9, .pv (.int .i64 k)), (11, .pv (.int .i64 b)), (12, .loc 12 0), (13, .loc 13 0), (14, .pv (.list (A.s.map eC)))] [(12, [A.t.pt]), (13, [A.t.pt])] gs (gn + 1) (by simp) ?_
            simp [hbl, hB, wideH, hC]
            refine (meldM_ok (some gn) A.t B.t (by omega) _).use ?_
            simp [hbl, hB, wideH, hC]
            refine (meldN_ok A.t B.t (by omega) _).use ?_
            simp [hbl, hB, wideS, sC]
            refine (sum_ok A.s B.s (by omega) (by omega) _).use ?_
            simp
            have okx := HS.sum okA okB (by omega)
            refine pcut_at [(0, .pv (.list (l.map Act6.cells))), (5, .mtr gn 0), (6, .own 6 (hs.map hC)), (7, .own 7 (hs.map hC)), (8, .own 8 (hs.map sC)), (9, .pv (.int .i64 k)), (12, .loc 12 0), (13, .loc 13 0), (14, .pv (.list ((sumL A.s B.s).map eC)))] [(12, [((A.t.meld B.t).1).pt]), (13, [((A.t.meld B.t).1).pt])] (tick (some gn) (A.t.meld B.t).2 (A.t.meld B.t).2 gs) (gn + 1) (by simp) ?_
            simp [wideH, wideS, w1h, w1s]
            refine ⟨⟨by omega, by omega⟩, ⟨by omega, by omega⟩, k + 1, hs ++ [⟨(A.t.meld B.t).1, sumL A.s B.s⟩], ⟨hlt, by simp; omega, ok_snoc hok okx⟩, by omega, ?_⟩
            simp [hC, sC]
            exact wr _ (by omega) (by omega)
          · by_cases h2 : c.kind = 2
            · simp (config := { maxSteps := 10000000 }) [hlt, wide, hc, Act6.cells, h2]
              refine pcut_at [(0, .pv (.list (l.map Act6.cells))), (5, .mtr gn 0), (6, .own 6 (hs.map hC)), (7, .own 7 (hs.map hC)), (8, .own 8 (hs.map sC)), (9, .pv (.int .i64 k)), (11, .pv (.int .i64 b)), (12, .loc 12 0), (13, .loc 13 0), (14, .pv (.list (A.s.map eC)))] [(12, [A.t.pt]), (13, [A.t.pt])] gs (gn + 1) (by simp) ?_
              simp
              refine (popM_ok (some gn) A.t (by omega) _).use ?_
              simp
              refine (popN_ok A.t (by omega) _).use ?_
              by_cases hpos : 0 < A.s.length
              · simp [hpos, wide2]
                refine ⟨by omega, ?_⟩
                have okx := HS.rest okA
                refine pcut_at [(0, .pv (.list (l.map Act6.cells))), (5, .mtr gn 0), (6, .own 6 (hs.map hC)), (7, .own 7 (hs.map hC)), (8, .own 8 (hs.map sC)), (9, .pv (.int .i64 k)), (12, .loc 12 0), (13, .loc 13 0), (14, .pv (.list ((A.s.tail).map eC)))] [(12, [(A.t.pop.1).pt]), (13, [(A.t.pop.1).pt])] (tick (some gn) A.t.pop.2 A.t.pop.2 gs) (gn + 1) (by simp) ?_
                simp [wideH, wideS, w1h, w1s]
                refine ⟨⟨by omega, by omega⟩, ⟨by omega, by omega⟩, k + 1, hs ++ [⟨A.t.pop.1, A.s.tail⟩], ⟨hlt, by simp; omega, ok_snoc hok okx⟩, by omega, ?_⟩
                simp [hC, sC]
                exact wr _ (by omega) (by omega)
              · simp [hpos]
                have hnil : A.s = [] := List.length_eq_zero_iff.1 (by omega)
                have okx := HS.rest okA
                refine pcut_at [(0, .pv (.list (l.map Act6.cells))), (5, .mtr gn 0), (6, .own 6 (hs.map hC)), (7, .own 7 (hs.map hC)), (8, .own 8 (hs.map sC)), (9, .pv (.int .i64 k)), (12, .loc 12 0), (13, .loc 13 0), (14, .pv (.list ((A.s.tail).map eC)))] [(12, [(A.t.pop.1).pt]), (13, [(A.t.pop.1).pt])] (tick (some gn) A.t.pop.2 A.t.pop.2 gs) (gn + 1) (by simp [hnil]) ?_
                simp [wideH, wideS, w1h, w1s]
                refine ⟨⟨by omega, by omega⟩, ⟨by omega, by omega⟩, k + 1, hs ++ [⟨A.t.pop.1, A.s.tail⟩], ⟨hlt, by simp; omega, ok_snoc hok okx⟩, by omega, ?_⟩
                simp [hC, sC]
                exact wr _ (by omega) (by omega)
            · have e0 : ((c.kind : Int) == 0) = false := beq_false_of_ne (by omega)
              have e1 : ((c.kind : Int) == 1) = false := beq_false_of_ne (by omega)
              have e2 : ((c.kind : Int) == 2) = false := beq_false_of_ne (by omega)
              simp (config := { maxSteps := 10000000 }) [hlt, wide, hc, Act6.cells, e0, e1, e2, h0, h1, h2]
              refine pcut_at [(0, .pv (.list (l.map Act6.cells))), (5, .mtr gn 0), (6, .own 6 (hs.map hC)), (7, .own 7 (hs.map hC)), (8, .own 8 (hs.map sC)), (9, .pv (.int .i64 k)), (11, .pv (.int .i64 b)), (12, .loc 12 0), (13, .loc 13 0), (14, .pv (.list (A.s.map eC)))] [(12, [A.t.pt]), (13, [A.t.pt])] gs (gn + 1) (by simp) ?_
              simp [hlt, wide, hc, Act6.cells]
              refine (ofM_ok (some gn) c.l (by omega) _).use ?_
              simp [hlt, wide, hc, Act6.cells]
              refine (ofN_ok c.l (by omega) _).use ?_
              simp [hlt, wide, hc, Act6.cells]
              refine (sort_ok c.l (by omega) _).use ?_
              simp
              have okx := HS.of c.l wc.2.2.2.2 hcl
              refine pcut_at [(0, .pv (.list (l.map Act6.cells))), (5, .mtr gn 0), (6, .own 6 (hs.map hC)), (7, .own 7 (hs.map hC)), (8, .own 8 (hs.map sC)), (9, .pv (.int .i64 k)), (12, .loc 12 0), (13, .loc 13 0), (14, .pv (.list ((sortL c.l).map eC)))] [(12, [(ofT c.l).pt]), (13, [(ofT c.l).pt])] (ofK (some gn) gs c.l).2 (gn + 1) (by simp) ?_
              simp [wideH, wideS, w1h, w1s]
              refine ⟨⟨by omega, by omega⟩, ⟨by omega, by omega⟩, k + 1, hs ++ [⟨ofT c.l, sortL c.l⟩], ⟨hlt, by simp; omega, ok_snoc hok okx⟩, by omega, ?_⟩
              simp [hC, sC]
              exact wr _ (by omega) (by omega)
    · simp (config := { maxSteps := 10000000 }) [hlt]
      have hll := hff.1
      refine pwp_loopS (α := Nat) (fun j => j ≤ hs.length) (fun j => [(6, .pv (.list (hs.map hC))), (7, .pv (.list (hs.map hC))), (8, .pv (.list (hs.map sC))), (15, .pv (.int .i64 j))]) (fun _ => []) (fun _ => gs) (fun _ => gn + 1) (fun j => hs.length - j) 0 (by simp) (by simp) ?_
      rintro j hj
      by_cases hjl : j < hs.length
      · simp [hjl]
        have hA' : ∃ A, hs[j] = A := ⟨_, rfl⟩
        obtain ⟨A, hA⟩ := hA'
        have okA := hok A (by rw [← hA]; exact List.getElem_mem hjl)
        have lA := okA.len
        have sA := okA.is.sz
        refine pcut_at [(6, .pv (.list (hs.map hC))), (7, .pv (.list (hs.map hC))), (8, .pv (.list (hs.map sC))), (15, .pv (.int .i64 j))] [] gs (gn + 1) (by simp) ?_
        simp [hjl, hA, wideH, hC]
        refine (drainN_ok A.t 300 A.s (by rw [okA.is.sort, sort_srt okA.srt]) (by omega) (by omega) okA.is.hp (by omega) _).use ?_
        simp [hjl, hA, wideS, wideH, hC, sC]
        refine (sameN_ok _ _ rfl (by omega) _).use ?_
        simp [hjl, hA, wideS, wideH, hC, sC]
        refine (sizeN_ok _ _).use ?_
        simp [hjl, hA, wideS, wideH, hC, sC, sA]
        refine (showN_ok A.t _ (okA.is.ok okA.wf) (by omega)).use ?_
        simp [hjl, hA, wideS, wideH, hC, sC, sA]
        refine (showN_ok A.t _ (okA.is.ok okA.wf) (by omega)).use ?_
        simp [hjl, hA, wideS, wideH, hC, sC, sA]
        exact ⟨j + 1, hjl, by omega, wr _ (by omega) (by omega)⟩
      · simp [hjl]
  · have hf' : fewB l = false := by simpa using hf
    simp [hf']
end Go.Proofs.YtgbcjpdhmjikgaaDoor
