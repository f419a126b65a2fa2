/- RankPlays. (Printed by wip/tools/plays05.py.) -/
import Derived.Test.YtbekdlgkoleblaaDoorL5h
namespace Go.Proofs.YtbekdlgkoleblaaDoor
set_option linter.unusedSimpArgs false
set_option linter.unusedVariables false

theorem sm_snoc {k : Nat} {l : List (Option RT)} (h : ∀ x ∈ l, Sm k x) {y : Option RT} (hy : Sm (k + 1) y) : ∀ x ∈ l ++ [y], Sm (k + 1) x := by
  intro x hx
  rcases List.mem_append.1 hx with hx | hx
  · exact (h x hx).mono (Nat.le_succ k)
  · rw [List.mem_singleton.1 hx]; exact hy

set_option maxHeartbeats 32000000 in
set_option maxRecDepth 4000 in
theorem plays_ok (l : List Act5) (hlen : l.length ≤ 9223372036854775807) (wl : ∀ x ∈ l, x.ok) (gl : Nat → Int × Int) : PCalls Tryd.prog 5 [.pv (.list (l.map Act5.cells))] gl fun r _ => r = .pv (.bool true) := by
  have wide := wide5 l
  have w1 : ∀ p : PV, Wide 1 [[p]] := fun p x hx => by rw [List.mem_singleton.1 hx]; rfl
  have w6 : ∀ t : Option RT, Wide 6 [oC t] := fun t x hx => by rw [List.mem_singleton.1 hx]; exact oC_len t
  have hw0 : IntKind.i64.wrap 0 = 0 := wr _ (by omega) (by omega)
  refine pcalls_of_pwp (cutImm [6, 13, 15, 17, 26, 28, 29, 21, 22, 32, 40] noImm) Tryd.func5 rfl (by simp) mixed (by kernel_rfl) fun gn => ?_
  generalize hC : Code.region 41 _ _ = C41
  simp (config := { maxSteps := 10000000 })
  refine (awake_ok _).mono fun r gl' h => ?_
  subst h
  simp
  by_cases hf : 24 < l.length
  · have hf' : (24 : Int) < l.length := by omega
    simp [hf, hf']
    intro hq
    exfalso
    omega
  · have hf' : ¬ (24 : Int) < l.length := by omega
    simp [hf, hf']
    intro _
    have hll : l.length ≤ 24 := by omega
    refine pcut_at [(0, .pv (.list (l.map Act5.cells)))] [] gl' gn (by simp) ?_
    simp
    refine (new_ok _).use ?_
    simp
    refine pwp_loopS (α := Nat × List (Option RT) × (Nat → Int × Int)) (fun s => s.1 ≤ l.length ∧ s.2.1.length = s.1 + 1 ∧ ∀ h ∈ s.2.1, Sm s.1 h)
      (fun s => [(0, .pv (.list (l.map Act5.cells))), (4, .mtr gn 0), (5, .own 5 (s.2.1.map fun t => [oP t])), (6, .own 6 (s.2.1.map oC)), (7, .pv (.int .i64 (IntKind.i64.wrap ((s.2.2 gn).1 + (s.2.2 gn).2)))), (8, .pv (.int .i64 s.1))]) (fun _ => []) (fun s => s.2.2) (fun _ => gn + 1) (fun s => l.length - s.1)
      (0, [none], upd gl' gn (0, 0)) ⟨by simp, by simp, fun h hh => by rw [List.mem_singleton.1 hh]; exact Sm.none 0⟩ (by simp [oP, oC, hw0]) ?_
    rintro ⟨k, hs, gs⟩ ⟨hk, hsl, hok⟩
    simp only at hk hsl hok
    by_cases hlt : k < l.length
    · simp (config := { maxSteps := 10000000 }) [hlt]
      have hc' : ∃ c, l[k] = c := ⟨_, rfl⟩
      obtain ⟨c, hc⟩ := hc'
      have hcm : c ∈ l := by rw [← hc]; exact List.getElem_mem hlt
      have wc := wl c hcm
      have ha' : ∃ a, c.a % hs.length = a := ⟨_, rfl⟩
      obtain ⟨a, ha⟩ := ha'
      have hal : a < hs.length := by rw [← ha]; exact Nat.mod_lt _ (by omega)
      have hb' : ∃ b, c.b % hs.length = b := ⟨_, rfl⟩
      obtain ⟨b, hb⟩ := hb'
      have hbl : b < hs.length := by rw [← hb]; exact Nat.mod_lt _ (by omega)
      have wca := wc.2.1
      have wcb := wc.2.2.1
      have wcx := wc.2.2.2
      have hwa : IntKind.i64.wrap (c.a : Int) = c.a := wr _ (by omega) (by omega)
      have hwb : IntKind.i64.wrap (c.b : Int) = c.b := wr _ (by omega) (by omega)
      have hia : (c.a : Int).tmod (hs.length : Int) = (a : Int) := by rw [← Int.ofNat_tmod, ha]
      have hib : (c.b : Int).tmod (hs.length : Int) = (b : Int) := by rw [← Int.ofNat_tmod, hb]
      have hne : hs ≠ [] := by intro e; rw [e] at hsl; simp at hsl
      have hA' : ∃ A, hs[a] = A := ⟨_, rfl⟩
      obtain ⟨A, hA⟩ := hA'
      have hB' : ∃ B, hs[b] = B := ⟨_, rfl⟩
      obtain ⟨B, hB⟩ := hB'
      have okA := hok A (by rw [← hA]; exact List.getElem_mem hal)
      have okB := hok B (by rw [← hB]; exact List.getElem_mem hbl)
      have lA := okA.len
      have lB := okB.len
      have cA := oC_len A
      have cB := oC_len B
      have eA := oC_eq A
      have eB := oC_eq B
      have tA : List.take 6 (oC A) = oC A := List.take_of_length_le (by omega)
      have tB : List.take 6 (oC B) = oC B := List.take_of_length_le (by omega)
      have hsum : IntKind.i64.wrap ((oSz A : Int) + oSz B) = ((oSz A + oSz B : Nat) : Int) := wr _ (by omega) (by omega)
      refine pcut_at [(0, .pv (.list (l.map Act5.cells))), (4, .mtr gn 0), (5, .own 5 (hs.map fun t => [oP t])), (6, .own 6 (hs.map oC)), (7, .pv (.int .i64 (IntKind.i64.wrap ((gs gn).1 + (gs gn).2)))), (8, .pv (.int .i64 k))] [] gs (gn + 1) (by simp) ?_
      simp [hlt, wide, hc, Act5.cells, hwa, hwb, hia, hib, hne]
      refine pcut_at [(0, .pv (.list (l.map Act5.cells))), (4, .mtr gn 0), (5, .own 5 (hs.map fun t => [oP t])), (6, .own 6 (hs.map oC)), (7, .pv (.int .i64 (IntKind.i64.wrap ((gs gn).1 + (gs gn).2)))), (8, .pv (.int .i64 k)), (9, .pv (.int .i64 a)), (10, .pv (.int .i64 b))] [] gs (gn + 1) (by simp) ?_
      simp [hal, hbl, hA, hB, wideO, eA, eB]
      by_cases hbig : 200 < oSz A + oSz B
      · have hbig' : (200 : Int) < (oSz A : Int) + oSz B := by omega
        simp [hsum, hbig, hbig']
        intro hq
        exfalso
        omega
      · have hbig' : ¬ (200 : Int) < (oSz A : Int) + oSz B := by omega
        simp [hsum, hbig, hbig']
        intro _
        refine pcut_at [(0, .pv (.list (l.map Act5.cells))), (4, .mtr gn 0), (5, .own 5 (hs.map fun t => [oP t])), (6, .own 6 (hs.map oC)), (7, .pv (.int .i64 (IntKind.i64.wrap ((gs gn).1 + (gs gn).2)))), (8, .pv (.int .i64 k)), (9, .pv (.int .i64 a)), (10, .pv (.int .i64 b))] [] gs (gn + 1) (by simp) ?_
        have lf := rc_len (RT.leaf c.x)
        have lft : List.take 6 (RT.leaf c.x).rc = (RT.leaf c.x).rc := List.take_of_length_le (by omega)
        simp (config := { maxSteps := 10000000 }) [hlt, wide, hc, Act5.cells]
        refine (refLeaf_ok c.x _).use ?_
        simp (config := { maxSteps := 10000000 }) [hlt, wide, hc, Act5.cells, lf, lft, hal, hA, wideOP]
        by_cases h0 : c.kind = 0
        · simp (config := { maxSteps := 10000000 }) [h0]
          refine pcut_at [(0, .pv (.list (l.map Act5.cells))), (4, .mtr gn 0), (5, .own 5 (hs.map fun t => [oP t])), (6, .own 6 (hs.map oC)), (7, .pv (.int .i64 (IntKind.i64.wrap ((gs gn).1 + (gs gn).2)))), (8, .pv (.int .i64 k)), (11, .pv (.int .i64 1)), (12, .loc 12 0)] [(12, (RT.leaf c.x).rc)] gs (gn + 1) (by simp) ?_
          simp [hlt, wide, hc, Act5.cells]
          refine (rLeaf_ok (some gn) c.x _).use ?_
          have okx := Sm.leaf (k + 1) c.x wcx
          have hS : IntKind.i64.wrap (IntKind.i64.wrap ((gs gn).1 + (gs gn).2) + 1) = IntKind.i64.wrap (((tick (some gn) 0 1 gs) gn).1 + ((tick (some gn) 0 1 gs) gn).2) := by
            rw [wr_wr_add]
            simp only [tick, upd_same]
            congr 1; omega
          have hg' : ∃ g2, tick (some gn) 0 1 gs = g2 := ⟨_, rfl⟩
          obtain ⟨g2, hg⟩ := hg'
          simp only [hg] at hS
          have hT' : ∃ T, some (RT.leaf c.x) = T := ⟨_, rfl⟩
          obtain ⟨T, hT⟩ := hT'
          have hT1 : (RT.leaf c.x).pt = oP T := by rw [← hT]; rfl
          have hT2 : (RT.leaf c.x).rc = oC T := by rw [← hT]; rfl
          rw [hT] at okx
          simp [hg, hT1, hT2]
          refine pcut_at [(0, .pv (.list (l.map Act5.cells))), (4, .mtr gn 0), (5, .own 5 (hs.map fun t => [oP t])), (6, .own 6 (hs.map oC)), (7, .pv (.int .i64 (IntKind.i64.wrap ((gs gn).1 + (gs gn).2)))), (8, .pv (.int .i64 k)), (11, .pv (.int .i64 1)), (12, .loc 12 0), (13, .pv (oP T))] [(12, oC T)] g2 (gn + 1) (by simp [lf]) ?_
          have cT := oC_len T
          have tT : List.take 6 (oC T) = oC T := List.take_of_length_le (by omega)
          have hmT := oP_cells T
          unfold PV.cells at hmT
          simp [wideOP, wideO, w1, w6, cT, tT, hmT]
          refine ⟨⟨by omega, by omega⟩, ⟨by omega, by omega⟩, ?_⟩
          refine (mSteps_ok (some gn) _).use ?_
          simp [steps, hS]
          refine ⟨k + 1, hs ++ [T], ⟨hlt, by simp; omega, sm_snoc hok okx⟩, by omega, ?_⟩
          simp
          exact wr _ (by omega) (by omega)
        · have e0 : ((c.kind : Int) == 0) = false := beq_false_of_ne (by omega)
          by_cases h1 : c.kind = 1
          · simp (config := { maxSteps := 10000000 }) [h0, h1, e0]
            refine pcut_at [(0, .pv (.list (l.map Act5.cells))), (4, .mtr gn 0), (5, .own 5 (hs.map fun t => [oP t])), (6, .own 6 (hs.map oC)), (7, .pv (.int .i64 (IntKind.i64.wrap ((gs gn).1 + (gs gn).2)))), (8, .pv (.int .i64 k)), (9, .pv (.int .i64 a)), (10, .pv (.int .i64 b)), (11, .pv (.int .i64 1)), (12, .loc 12 0)] [(12, (RT.leaf c.x).rc)] gs (gn + 1) (by simp) ?_
            have C1 := rLink_ok (some gn) A B (okA.bound (by omega)) (okB.bound (by omega)) gs
            have C2 := fun gl => refLink_ok A B (okA.bound (by omega)) (okB.bound (by omega)) gl
            have okx := okA.link okB (by omega)
            have hS := link_count gn A B gs
            generalize linkTick (some gn) A B gs = g2 at C1 hS
            generalize (oLink A B).2 = n at C2 hS
            generalize (oLink A B).1 = T at C1 C2 okx
            replace hS : IntKind.i64.wrap (IntKind.i64.wrap ((gs gn).1 + (gs gn).2) + (n : Int)) = IntKind.i64.wrap ((g2 gn).1 + (g2 gn).2) := by
              exact (wr_wr_add _ _).trans (congrArg _ (by omega))
            simp [hal, hbl, hA, hB, wideOP]
            refine C1.use ?_
            simp
            refine pcut_at [(0, .pv (.list (l.map Act5.cells))), (4, .mtr gn 0), (5, .own 5 (hs.map fun t => [oP t])), (6, .own 6 (hs.map oC)), (7, .pv (.int .i64 (IntKind.i64.wrap ((gs gn).1 + (gs gn).2)))), (8, .pv (.int .i64 k)), (9, .pv (.int .i64 a)), (10, .pv (.int .i64 b)), (11, .pv (.int .i64 1)), (12, .loc 12 0), (13, .pv (oP T))] [(12, (RT.leaf c.x).rc)] g2 (gn + 1) (by simp) ?_
            simp [hal, hbl, hA, hB, wideO, cA, cB, tA, tB]
            refine (C2 _).use ?_
            have cT0 := oC_len T
            have tT0 : List.take 6 (oC T) = oC T := List.take_of_length_le (by omega)
            simp [cT0, tT0, lf]
            refine pcut_at [(0, .pv (.list (l.map Act5.cells))), (4, .mtr gn 0), (5, .own 5 (hs.map fun t => [oP t])), (6, .own 6 (hs.map oC)), (7, .pv (.int .i64 (IntKind.i64.wrap ((gs gn).1 + (gs gn).2)))), (8, .pv (.int .i64 k)), (11, .pv (.int .i64 n)), (12, .loc 12 0), (13, .pv (oP T))] [(12, oC T)] g2 (gn + 1) (by simp [lf]) ?_
            have cT := oC_len T
            have tT : List.take 6 (oC T) = oC T := List.take_of_length_le (by omega)
            have hmT := oP_cells T
            unfold PV.cells at hmT
            simp [wideOP, wideO, w1, w6, cT, tT, hmT]
            refine ⟨⟨by omega, by omega⟩, ⟨by omega, by omega⟩, ?_⟩
            refine (mSteps_ok (some gn) _).use ?_
            simp [steps, hS]
            refine ⟨k + 1, hs ++ [T], ⟨hlt, by simp; omega, sm_snoc hok okx⟩, by omega, ?_⟩
            simp
            exact wr _ (by omega) (by omega)
          · have e1 : ((c.kind : Int) == 1) = false := beq_false_of_ne (by omega)
            have h0' : ¬ (c.kind : Int) = 0 := by omega
            have h1' : ¬ (c.kind : Int) = 1 := by omega
            simp (config := { maxSteps := 10000000 }) [h0, h1, e0, e1, h0', h1']
            refine pcut_at [(0, .pv (.list (l.map Act5.cells))), (4, .mtr gn 0), (5, .own 5 (hs.map fun t => [oP t])), (6, .own 6 (hs.map oC)), (7, .pv (.int .i64 (IntKind.i64.wrap ((gs gn).1 + (gs gn).2)))), (8, .pv (.int .i64 k)), (9, .pv (.int .i64 a)), (10, .pv (.int .i64 b)), (11, .pv (.int .i64 1)), (12, .loc 12 0)] [(12, (RT.leaf c.x).rc)] gs (gn + 1) (by simp) ?_
            have hzl : ∀ u, (oLink A B).1 = some u → u.sz ≤ 200000 := fun u hu => by
              have := oLink_sz A B
              rw [hu] at this
              have h0 : oSz (some u) = u.sz := rfl
              omega
            have hn2 : (oLink A B).2 ≤ 2 := by cases A <;> cases B <;> simp [oLink]
            have C1 := rSkew_ok (some gn) c.x A B (okA.bound (by omega)) (okB.bound (by omega)) hzl gs
            have C2 := fun gl => refSkew_ok c.x A B (okA.bound (by omega)) (okB.bound (by omega)) hzl hn2 gl
            have okx := okA.skew c.x wcx okB (by omega)
            have hS := skew_count gn c.x A B gs
            generalize skewTick (some gn) A B gs = g2 at C1 hS
            generalize (oSkew c.x A B).2 = n at C2 hS
            generalize (oSkew c.x A B).1 = T0 at C1 C2 okx
            have hT' : ∃ T, some T0 = T := ⟨_, rfl⟩
            obtain ⟨T, hT⟩ := hT'
            have hT1 : T0.pt = oP T := by rw [← hT]; rfl
            have hT2 : T0.rc = oC T := by rw [← hT]; rfl
            rw [hT] at okx
            rw [hT1] at C1
            simp only [hT2] at C2
            replace hS : IntKind.i64.wrap (IntKind.i64.wrap ((gs gn).1 + (gs gn).2) + (n : Int)) = IntKind.i64.wrap ((g2 gn).1 + (g2 gn).2) := by
              exact (wr_wr_add _ _).trans (congrArg _ (by omega))
            simp [hlt, wide, hc, Act5.cells, hal, hbl, hA, hB, wideOP]
            refine C1.use ?_
            simp
            refine pcut_at [(0, .pv (.list (l.map Act5.cells))), (4, .mtr gn 0), (5, .own 5 (hs.map fun t => [oP t])), (6, .own 6 (hs.map oC)), (7, .pv (.int .i64 (IntKind.i64.wrap ((gs gn).1 + (gs gn).2)))), (8, .pv (.int .i64 k)), (9, .pv (.int .i64 a)), (10, .pv (.int .i64 b)), (11, .pv (.int .i64 1)), (12, .loc 12 0), (13, .pv (oP T))] [(12, (RT.leaf c.x).rc)] g2 (gn + 1) (by simp) ?_
            simp [hlt, wide, hc, Act5.cells, hal, hbl, hA, hB, wideO, cA, cB, tA, tB]
            refine (C2 _).use ?_
            have cT0 := oC_len T
            have tT0 : List.take 6 (oC T) = oC T := List.take_of_length_le (by omega)
            simp [cT0, tT0, lf]
            refine pcut_at [(0, .pv (.list (l.map Act5.cells))), (4, .mtr gn 0), (5, .own 5 (hs.map fun t => [oP t])), (6, .own 6 (hs.map oC)), (7, .pv (.int .i64 (IntKind.i64.wrap ((gs gn).1 + (gs gn).2)))), (8, .pv (.int .i64 k)), (11, .pv (.int .i64 n)), (12, .loc 12 0), (13, .pv (oP T))] [(12, oC T)] g2 (gn + 1) (by simp [lf]) ?_
            have cT := oC_len T
            have tT : List.take 6 (oC T) = oC T := List.take_of_length_le (by omega)
            have hmT := oP_cells T
            unfold PV.cells at hmT
            simp [wideOP, wideO, w1, w6, cT, tT, hmT]
            refine ⟨⟨by omega, by omega⟩, ⟨by omega, by omega⟩, ?_⟩
            refine (mSteps_ok (some gn) _).use ?_
            simp [steps, hS]
            refine ⟨k + 1, hs ++ [T], ⟨hlt, by simp; omega, sm_snoc hok okx⟩, by omega, ?_⟩
            simp
            exact wr _ (by omega) (by omega)
    · simp (config := { maxSteps := 10000000 }) [hlt]
      refine pwp_loopS (α := Nat) (fun j => j ≤ hs.length) (fun j => [(5, .pv (.list (hs.map fun t => [oP t]))), (6, .pv (.list (hs.map oC))), (18, .pv (.int .i64 j))]) (fun _ => []) (fun _ => gs) (fun _ => gn + 1) (fun j => hs.length - j) 0 (by simp) (by simp) ?_
      rintro j hj
      by_cases hjl : j < hs.length
      · simp (config := { maxSteps := 10000000 }) [hjl]
        have hA' : ∃ A, hs[j] = A := ⟨_, rfl⟩
        obtain ⟨A, hA⟩ := hA'
        have okA := hok A (by rw [← hA]; exact List.getElem_mem hjl)
        have lA := okA.len
        have cA := oC_len A
        have eA := oC_eq A
        have tA : List.take 6 (oC A) = oC A := List.take_of_length_le (by omega)
        have C1 := fun gl => refShow_ok A okA.fine gl
        have C2 := fun gl => cRefRank A gl
        have C3 := fun gl => refRight_ok A okA.size gl
        have C4 := fun gl => cRefAll A okA.size gl
        simp only [eA] at C1 C2 C3 C4
        have hlA : (oAll A).length ≤ 1000000 := by
          cases A with
          | none => simp [oAll]
          | some u => simp only [oAll, all_len]; simp only [oSz] at lA; omega
        have hlB : (oBeside A).length ≤ 1000000 := by
          cases A with
          | none => simp [oBeside]
          | some u => have := sz_eq u; simp only [oBeside]; simp only [oSz] at lA; omega
        refine pcut_at [(5, .pv (.list (hs.map fun t => [oP t]))), (6, .pv (.list (hs.map oC))), (18, .pv (.int .i64 j))] [] gs (gn + 1) (by simp) ?_
        simp (config := { maxSteps := 10000000 }) [hjl, hA, wideOP]
        refine (cRoot A _).use ?_
        simp (config := { maxSteps := 10000000 })
        rw [← hC]
        refine pwp_region_bare (by simp) rfl ?_
        simp (config := { maxSteps := 10000000 }) only [bare, List.append_eq, List.cons_append, List.nil_append, List.map_toArray, List.map_cons, List.map_nil]
        refine pops_chunk 12 fun K1 hK1 => ?_
        simp only [List.take_succ_cons, List.take_zero]
        simp [hjl, hA, wideOP]
        refine (rShow_ok A okA.fine _).use ?_
        simp [hjl, hA, wideO, eA]
        refine (C1 _).use ?_
        simp
        refine hK1 _ ?_
        clear hK1 K1
        simp only [List.drop_succ_cons, List.drop_zero]
        refine pops_chunk 13 fun K2 hK2 => ?_
        simp only [List.take_succ_cons, List.take_zero]
        simp [hjl, hA, wideOP]
        refine (cRank A _).use ?_
        simp [hjl, hA, wideO, eA]
        refine (C2 _).use ?_
        simp
        refine hK2 _ ?_
        clear hK2 K2
        simp only [List.drop_succ_cons, List.drop_zero]
        refine pops_chunk 13 fun K3 hK3 => ?_
        simp only [List.take_succ_cons, List.take_zero]
        simp [hjl, hA, wideOP]
        refine (cSize A _).use ?_
        simp [hjl, hA, wideO, eA]
        refine hK3 _ ?_
        clear hK3 K3
        simp only [List.drop_succ_cons, List.drop_zero]
        refine pops_chunk 19 fun K4 hK4 => ?_
        simp only [List.take_succ_cons, List.take_zero]
        simp [hjl, hA, wideO, eA, pairEq]
        refine hK4 _ ?_
        clear hK4 K4
        simp only [List.drop_succ_cons, List.drop_zero]
        refine pops_chunk 13 fun K5 hK5 => ?_
        simp only [List.take_succ_cons, List.take_zero]
        simp [hjl, hA, wideOP]
        refine (rRight_ok A okA.size _).use ?_
        simp [hjl, hA, wideO, eA]
        refine (C3 _).use ?_
        simp
        refine hK5 _ ?_
        clear hK5 K5
        simp only [List.drop_succ_cons, List.drop_zero]
        refine pops_chunk 14 fun K6 hK6 => ?_
        simp only [List.take_succ_cons, List.take_zero]
        simp [hjl, hA, wideOP]
        refine (cAll A okA.size _).use ?_
        simp [hjl, hA, wideO, eA]
        refine (C4 _).use ?_
        simp
        refine (same_ok (oAll A) (oAll A) hlA hlA _).use ?_
        simp
        refine hK6 _ ?_
        clear hK6 K6
        simp only [List.drop_succ_cons, List.drop_zero]
        refine pops_chunk 14 fun K7 hK7 => ?_
        simp only [List.take_succ_cons, List.take_zero]
        simp [hjl, hA, wideOP]
        refine (rBeside_ok A okA.size _).use ?_
        simp [hjl, hA, wideO, eA]
        refine (same_ok (oBeside A) (oBeside A) hlB hlB _).use ?_
        simp
        refine hK7 _ ?_
        clear hK7 K7
        simp only [List.drop_succ_cons, List.drop_zero]
        simp [hjl, hA, wideOP]
        refine (rKids_ok A okA.size _).use ?_
        simp [hjl, hA, wideO, eA]
        exact ⟨j + 1, hjl, by omega, wr _ (by omega) (by omega)⟩
      · simp [hjl]
end Go.Proofs.YtbekdlgkoleblaaDoor
