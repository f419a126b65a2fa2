/- RankRight. (Printed by wip/tools/right05.py.) -/
import Derived.Test.YtbekdlgkoleblaaDoorL5e
namespace Go.Proofs.YtbekdlgkoleblaaDoor
set_option linter.unusedSimpArgs false
set_option linter.unusedVariables false

theorem wideT (l : List RT) : Wide 1 (l.map fun t => [t.pt]) := wideK l
theorem wideB (l : List Bool) : Wide 1 (l.map fun b => [PV.bool b]) := by
  intro x hx
  obtain ⟨a, _, rfl⟩ := List.mem_map.1 hx
  rfl

/-- What stays true of the trees of one round. -/
structure Round (l : List El) (N k j used c : Nat) (ts : List RT) : Prop where
  le : j ≤ k
  len : ts.length = 2 ^ (k - j)
  gd : ∀ t ∈ ts, Gd j t
  pm : (RT.allL ts).Perm (l.take used)
  us : used ≤ l.length
  cn : c + ts.length = N
/-- .. and inside of one. -/
structure Inner (l : List El) (N j used c q : Nat) (ts next : List RT) : Prop where
  q2 : q = 2 * next.length
  ql : q ≤ ts.length
  gd : ∀ t ∈ next, Gd (j + 1) t
  pm : (RT.allL next ++ RT.allL (ts.drop q)).Perm (l.take used)
  us : used ≤ l.length
  cn : c + next.length + (ts.length - q) = N

theorem drop_two {ts : List RT} {q : Nat} (h : q + 1 < ts.length) : ts.drop q = ts[q] :: ts[q + 1] :: ts.drop (q + 2) := by
  rw [List.drop_eq_getElem_cons (by omega), List.drop_eq_getElem_cons h]
theorem Inner.bound {l : List El} {N j used c q : Nat} {ts next : List RT} (h : Inner l N j used c q ts next) (hq : q + 1 < ts.length) : ts[q].sz + ts[q + 1].sz ≤ used := by
  have := h.pm.length_eq
  have hu := h.us
  rw [drop_two hq] at this
  simp only [RT.allL, List.length_append, all_len, List.length_take] at this
  omega
theorem Inner.link {l : List El} {N j used c q : Nat} {ts next : List RT} (h : Inner l N j used c q ts next) (hts : ∀ t ∈ ts, Gd j t) (hq : q + 1 < ts.length) (he : q + 2 ≤ ts.length) : Inner l N j used (c + 1) (q + 2) ts (next ++ [RT.link ts[q] ts[q + 1]]) := by
  have g := ((hts _ (List.getElem_mem (show q < ts.length by omega))).link (hts _ (List.getElem_mem hq))).1
  refine ⟨by have := h.q2; simp; omega, he, fun t ht => ?_, ?_, h.us, by have := h.cn; simp; omega⟩
  · rcases List.mem_append.1 ht with ht | ht
    · exact h.gd t ht
    · rw [List.mem_singleton.1 ht]; exact g
  · have hp := h.pm
    rw [drop_two hq] at hp
    refine List.Perm.trans ?_ hp
    rw [allL_app, List.append_assoc]
    refine List.Perm.append_left _ ?_
    simp only [RT.allL, List.append_nil]
    rw [← List.append_assoc]
    exact (link_perm _ _).append_right _
theorem Inner.skew {l : List El} {N j used c q : Nat} {ts next : List RT} (h : Inner l N j used c q ts next) (hts : ∀ t ∈ ts, Gd j t) (hq : q + 1 < ts.length) (he : q + 2 ≤ ts.length) (hu : used < l.length) : Inner l N j (used + 1) (c + 1) (q + 2) ts (next ++ [RT.skew l[used] (RT.link ts[q] ts[q + 1])]) := by
  have g0 := (hts _ (List.getElem_mem (show q < ts.length by omega))).link (hts _ (List.getElem_mem hq))
  have g := g0.1.skew l[used] g0.2
  refine ⟨by have := h.q2; simp; omega, he, fun t ht => ?_, ?_, hu, by have := h.cn; simp; omega⟩
  · rcases List.mem_append.1 ht with ht | ht
    · exact h.gd t ht
    · rw [List.mem_singleton.1 ht]; exact g
  · have hp := h.pm
    rw [drop_two hq] at hp
    rw [List.take_succ_eq_append_getElem hu]
    refine List.Perm.trans ?_ (hp.append_right [l[used]])
    rw [allL_app, List.append_assoc, List.append_assoc]
    refine List.Perm.append_left _ ?_
    simp only [RT.allL, List.append_nil]
    refine ((skew_perm _ _).append_right _).trans ?_
    rw [List.cons_append]
    refine List.Perm.trans ?_ (List.perm_append_comm (l₁ := [l[used]]))
    rw [List.singleton_append]
    refine List.Perm.cons _ ?_
    rw [← List.append_assoc]
    exact (link_perm _ _).append_right _

set_option maxHeartbeats 32000000 in
set_option maxRecDepth 4000 in
theorem right_ok (l : List El) (sk : List Bool) (r : Int) (hlen : l.length ≤ 9223372036854775807) (hsk : sk.length ≤ 9223372036854775807) (hr : 0 ≤ r ∧ r < 256) (wl : ∀ x ∈ l, inE x) (gl : Nat → Int × Int) :
    PCalls Tryd.prog 3 [.pv (.list (l.map eC)), .pv (.list (sk.map fun b => [.bool b])), .pv (.int .u8 r)] gl fun r _ => r = .pv (.bool true) := by
  have hwr : IntKind.i64.wrap r = r := wr _ (by omega) (by omega)
  have hk' : ∃ kN : Nat, r.tmod 6 = kN ∧ kN < 6 := by
    have h1 : r.tmod 6 = r % 6 := Int.tmod_eq_emod_of_nonneg (by omega)
    exact ⟨(r % 6).toNat, by rw [h1]; omega, by omega⟩
  obtain ⟨kN, hkN, hk6⟩ := hk'
  have hp32 : ∀ i, i ≤ kN → 2 ^ i ≤ 32 := fun i hi => by
    have : 2 ^ i ≤ 2 ^ 5 := Nat.pow_le_pow_right (by omega) (by omega)
    simpa using this
  have cF : ∀ (v : El) gl, PCalls Tryd.prog 9 [.pv .nilp, .pv (.agg [.int .i64 v.1, .int .i64 v.2])] gl fun r gl' => r = .pv (RT.leaf v).pt ∧ gl' = gl := fun v gl => rLeaf_ok none v gl
  have w1 : ∀ t : RT, Wide 1 [[t.pt]] := fun t x hx => by rw [List.mem_singleton.1 hx]; rfl
  refine pcalls_of_pwp (cutImm [4, 10, 12, 18, 24, 26, 28, 30, 32, 33] noImm) Tryd.func3 rfl (by simp) mixed (by kernel_rfl) fun gn => ?_
  simp (config := { maxSteps := 10000000 })
  refine (awake_ok _).mono fun r' gl' h => ?_
  subst h
  simp
  refine pcut_at [(0, .pv (.list (l.map eC))), (1, .pv (.list (sk.map fun b => [.bool b]))), (2, .pv (.int .u8 r))] [] gl' gn (by simp) ?_
  simp [hwr, hkN]
  refine pwp_loopS (α := Nat) (fun i => i ≤ kN) (fun i => [(0, .pv (.list (l.map eC))), (1, .pv (.list (sk.map fun b => [.bool b]))), (8, .pv (.int .i64 kN)), (9, .pv (.int .i64 ((2 ^ i : Nat) : Int))), (10, .pv (.int .i64 i))]) (fun _ => []) (fun _ => gl') (fun _ => gn) (fun i => kN - i) 0 (by simp) (by simp) ?_
  rintro i hi
  by_cases hlt : i < kN
  · have h32 := hp32 i hi
    have hge : 1 ≤ 2 ^ i := Nat.one_le_two_pow
    have hM' : ∃ M : Nat, 2 ^ i = M := ⟨_, rfl⟩
    obtain ⟨M, hM⟩ := hM'
    have hMi : (2 : Int) ^ i = (M : Int) := by rw [← hM]; simp
    have hM1 : (2 : Int) ^ (i + 1) = (M : Int) * 2 := by rw [Int.pow_succ, hMi]
    rw [hM] at h32 hge
    have hmul : IntKind.i64.wrap ((M : Int) * 2) = (M : Int) * 2 := wr _ (by omega) (by omega)
    simp [hlt, hmul, hMi]
    exact ⟨i + 1, hlt, by omega, by simp [hM1], wr _ (by omega) (by omega)⟩
  · have hik : i = kN := by omega
    have h32 := hp32 kN (Nat.le_refl _)
    have hpos : 1 ≤ 2 ^ kN := Nat.one_le_two_pow
    simp [hlt]
    have hN' : ∃ N : Nat, 2 ^ kN = N := ⟨_, rfl⟩
    obtain ⟨N, hN⟩ := hN'
    have hNi : (2 : Int) ^ i = (N : Int) := by rw [hik, ← hN]; simp
    rw [hN] at h32 hpos
    refine pcut_at [(0, .pv (.list (l.map eC))), (1, .pv (.list (sk.map fun b => [.bool b]))), (8, .pv (.int .i64 kN)), (9, .pv (.int .i64 N))] [] gl' gn (by simp [hNi]) ?_
    have hm2 : IntKind.i64.wrap ((N : Int) * 2) = (N : Int) * 2 := wr _ (by omega) (by omega)
    by_cases hs1 : l.length < N * 2
    · have hs1' : (l.length : Int) < (N : Int) * 2 := by omega
      simp [hm2, hs1, hs1']
    · have hs1' : ¬ (l.length : Int) < (N : Int) * 2 := by omega
      by_cases hs2 : 200 < l.length
      · have hs2' : (200 : Int) < l.length := by omega
        simp [hm2, hs1, hs2, hs1', hs2']
      · have hs2' : ¬ (200 : Int) < l.length := by omega
        simp [hm2, hs1, hs2, hs1', hs2']
        refine pcut_at [(0, .pv (.list (l.map eC))), (1, .pv (.list (sk.map fun b => [.bool b]))), (8, .pv (.int .i64 kN)), (9, .pv (.int .i64 N))] [] gl' gn (by simp) ?_
        simp
        refine pwp_loopS (α := Nat) (fun p => p ≤ N) (fun p => [(0, .pv (.list (l.map eC))), (1, .pv (.list (sk.map fun b => [.bool b]))), (8, .pv (.int .i64 kN)), (9, .pv (.int .i64 N)), (11, .own 11 (((l.take p).map RT.leaf).map fun t => [t.pt])), (12, .pv (.int .i64 p))]) (fun _ => []) (fun _ => gl') (fun _ => gn) (fun p => N - p) 0 (by simp) (by simp) ?_
        rintro p hp
        by_cases hpl : p < N
        · have hpl2 : p < l.length := by omega
          have hwt := wideT ((l.take p).map RT.leaf)
          simp [hpl, hpl2, wide2, eC]
          refine (cF l[p] _).use ?_
          have hmP := pt_cells (RT.leaf l[p])
          unfold PV.cells at hmP
          simp [hmP, w1]
          simp only [List.map_map, List.map_take] at hwt
          refine ⟨⟨hwt, by omega, by omega⟩, p + 1, hpl, by omega, ?_, wr _ (by omega) (by omega)⟩
          rw [List.take_succ_eq_append_getElem (by simpa using hpl2)]; simp
        · have hpN : p = N := by omega
          simp [hpl]
          refine pcut_at [(0, .pv (.list (l.map eC))), (1, .pv (.list (sk.map fun b => [.bool b]))), (8, .pv (.int .i64 kN)), (11, .pv (.list (((l.take N).map RT.leaf).map fun t => [t.pt]))), (13, .pv (.int .i64 N))] [] gl' gn (by simp [hpN]) ?_
          simp
          refine pwp_loopS (α := Nat × List RT × Nat × Nat) (fun s => Round l N kN s.1 s.2.2.1 s.2.2.2 s.2.1) (fun s => [(0, .pv (.list (l.map eC))), (1, .pv (.list (sk.map fun b => [.bool b]))), (8, .pv (.int .i64 kN)), (11, .pv (.list (s.2.1.map fun t => [t.pt]))), (13, .pv (.int .i64 s.2.2.1)), (14, .pv (.int .i64 s.2.2.2))]) (fun _ => []) (fun _ => gl') (fun _ => gn) (fun s => s.2.1.length)
            (0, (l.take N).map RT.leaf, N, 0) ⟨Nat.zero_le _, by simp [hN]; omega, fun t ht => by obtain ⟨y, _, rfl⟩ := List.mem_map.1 ht; exact Gd.leaf y, by rw [allL_leaf], show N ≤ l.length by omega, by simp; omega⟩ (by simp) ?_
          rintro ⟨j, ts, used, c⟩ hR
          simp only at hR
          have hRl := hR.len
          have hRu := hR.us
          have hRc := hR.cn
          by_cases hone : 1 < ts.length
          · have hone' : (1 : Int) < ts.length := by omega
            simp [hone, hone']
            have hjk : j < kN := by
              rcases Nat.lt_or_ge j kN with h | h
              · exact h
              · have : kN - j = 0 := by omega
                rw [this] at hRl; omega
            have heven : ts.length = 2 * 2 ^ (kN - (j + 1)) := by
              rw [hRl, show kN - j = (kN - (j + 1)) + 1 by omega, Nat.pow_succ]; omega
            refine pwp_loopS (α := Nat × List RT × Nat × Nat) (fun s => Inner l N j s.2.2.1 s.2.2.2 s.1 ts s.2.1) (fun s => [(0, .pv (.list (l.map eC))), (1, .pv (.list (sk.map fun b => [.bool b]))), (8, .pv (.int .i64 kN)), (11, .pv (.list (ts.map fun t => [t.pt]))), (13, .pv (.int .i64 s.2.2.1)), (14, .pv (.int .i64 s.2.2.2)), (15, .own 15 (s.2.1.map fun t => [t.pt])), (16, .pv (.int .i64 s.1))]) (fun _ => []) (fun _ => gl') (fun _ => gn) (fun s => ts.length - s.1)
              (0, [], used, c) ⟨by simp, Nat.zero_le _, (by simp), by simpa [RT.allL] using hR.pm, hR.us, by simp; omega⟩ (by simp) ?_
            rintro ⟨q, next, u2, c2⟩ hI
            simp only at hI
            have hIq := hI.q2
            have hIl := hI.ql
            have hIu := hI.us
            have hIc := hI.cn
            have hq1 : IntKind.i64.wrap ((q : Int) + 1) = (q : Int) + 1 := wr _ (by omega) (by omega)
            by_cases hql : q + 1 < ts.length
            · have hql' : (q : Int) + 1 < ts.length := by omega
              have hq0 : q < ts.length := by omega
              have hq0' : (q : Int) < ts.length := by omega
              have hc1 : IntKind.i64.wrap ((c2 : Int) + 1) = (c2 : Int) + 1 := wr _ (by omega) (by omega)
              have hc2 : IntKind.i64.wrap ((c2 : Int) + 1 - 1) = (c2 : Int) := by rw [show (c2 : Int) + 1 - 1 = c2 by omega]; exact wr _ (by omega) (by omega)
              have hq1p : (0 : Int) ≤ (q : Int) + 1 := by omega
              have hq2 : IntKind.i64.wrap ((q : Int) + 2) = (q : Int) + 2 := wr _ (by omega) (by omega)
              have hb := hI.bound hql
              have hA' : ∃ A, ts[q] = A := ⟨_, rfl⟩
              obtain ⟨A, hA⟩ := hA'
              have hB' : ∃ B, ts[q + 1] = B := ⟨_, rfl⟩
              obtain ⟨B, hB⟩ := hB'
              have gA := hR.gd ts[q] (List.getElem_mem hq0)
              have gB := hR.gd ts[q + 1] (List.getElem_mem hql)
              have sL := hI.link hR.gd hql (by omega)
              have sS := fun hu => hI.skew hR.gd hql (by omega) hu
              simp only [hA, hB] at hb gA gB sL sS
              have rA := gA.rk
              have rB := gB.rk
              have hj := hR.le
              have bA : ∀ u, some A = some u → u.sz ≤ 100000 ∧ -1000000 ≤ u.rank ∧ u.rank ≤ 1000000 := by rintro u ⟨rfl⟩; omega
              have bB : ∀ u, some B = some u → u.sz ≤ 100000 ∧ -1000000 ≤ u.rank ∧ u.rank ≤ 1000000 := by rintro u ⟨rfl⟩; omega
              have cL : ∀ gl, PCalls Tryd.prog 11 [.pv .nilp, .pv A.pt, .pv B.pt] gl fun r gl' => r = .pv (RT.link A B).pt ∧ gl' = gl := fun gl => rLink_ok none (some A) (some B) bA bB gl
              have cS : ∀ (x : El) gl, PCalls Tryd.prog 10 [.pv .nilp, .pv (.agg [.int .i64 x.1, .int .i64 x.2]), .pv A.pt, .pv B.pt] gl fun r gl' => r = .pv (RT.skew x (RT.link A B)).pt ∧ gl' = gl := fun x gl => rSkew_ok none x (some A) (some B) bA bB (by rintro u ⟨rfl⟩; rw [link_sz]; omega) gl
              have hwn := wideT next
              simp [hq1, hql']
              refine pcut_at [(0, .pv (.list (l.map eC))), (1, .pv (.list (sk.map fun b => [.bool b]))), (8, .pv (.int .i64 kN)), (11, .pv (.list (ts.map fun t => [t.pt]))), (13, .pv (.int .i64 u2)), (14, .pv (.int .i64 c2)), (15, .own 15 (next.map fun t => [t.pt])), (16, .pv (.int .i64 q))] [] gl' gn (by simp) ?_
              simp [hc1]
              by_cases hu : u2 < l.length
              · by_cases hc : c2 + 1 ≤ sk.length
                · have hcl : c2 < sk.length := by omega
                  have hcl' : (c2 : Int) < sk.length := by omega
                  have hc3 : IntKind.i64.wrap (c2 : Int) = c2 := wr _ (by omega) (by omega)
                  have hc' : (c2 : Int) + 1 ≤ sk.length := by omega
                  by_cases hs : sk[c2] = true
                  · simp [hu, hc, hc', hcl, hcl', hc2, hc3, hs, wideB]
                    refine pcut_at [(0, .pv (.list (l.map eC))), (1, .pv (.list (sk.map fun b => [.bool b]))), (8, .pv (.int .i64 kN)), (11, .pv (.list (ts.map fun t => [t.pt]))), (13, .pv (.int .i64 u2)), (14, .pv (.int .i64 ((c2 : Int) + 1))), (15, .own 15 (next.map fun t => [t.pt])), (16, .pv (.int .i64 q))] [] gl' gn (by simp) ?_
                    simp [hu, wide2, eC, wideT, hq0, hq0', hql', hq1, hq1p, hA, hB, hql]
                    refine (cS l[u2] _).use ?_
                    have hmP := pt_cells (RT.skew l[u2] (RT.link A B))
                    unfold PV.cells at hmP
                    simp [hmP, w1, hwn, hq2]
                    refine ⟨⟨by omega, by omega⟩, q + 2, next ++ [RT.skew l[u2] (RT.link A B)], u2 + 1, c2 + 1, sS hu, by omega, (wr _ (by omega) (by omega)).trans (by omega), by omega, by simp, by omega⟩
                  · simp [hu, hc, hc', hcl, hcl', hc2, hc3, hs, wideB]
                    refine pcut_at [(0, .pv (.list (l.map eC))), (1, .pv (.list (sk.map fun b => [.bool b]))), (8, .pv (.int .i64 kN)), (11, .pv (.list (ts.map fun t => [t.pt]))), (13, .pv (.int .i64 u2)), (14, .pv (.int .i64 ((c2 : Int) + 1))), (15, .own 15 (next.map fun t => [t.pt])), (16, .pv (.int .i64 q))] [] gl' gn (by simp) ?_
                    simp [wideT, hq0, hq0', hql', hq1, hq1p, hA, hB, hql]
                    refine (cL _).use ?_
                    have hmP := pt_cells (RT.link A B)
                    unfold PV.cells at hmP
                    simp [hmP, w1, hwn, hq2]
                    refine ⟨⟨by omega, by omega⟩, q + 2, next ++ [RT.link A B], u2, c2 + 1, sL, by omega, rfl, by omega, by simp, by omega⟩
                · have hc' : ¬ (c2 : Int) + 1 ≤ sk.length := by omega
                  simp [hu, hc, hc']
                  refine pcut_at [(0, .pv (.list (l.map eC))), (1, .pv (.list (sk.map fun b => [.bool b]))), (8, .pv (.int .i64 kN)), (11, .pv (.list (ts.map fun t => [t.pt]))), (13, .pv (.int .i64 u2)), (14, .pv (.int .i64 ((c2 : Int) + 1))), (15, .own 15 (next.map fun t => [t.pt])), (16, .pv (.int .i64 q))] [] gl' gn (by simp) ?_
                  simp [wideT, hq0, hq0', hql', hq1, hq1p, hA, hB, hql]
                  refine (cL _).use ?_
                  have hmP := pt_cells (RT.link A B)
                  unfold PV.cells at hmP
                  simp [hmP, w1, hwn, hq2]
                  refine ⟨⟨by omega, by omega⟩, q + 2, next ++ [RT.link A B], u2, c2 + 1, sL, by omega, rfl, by omega, by simp, by omega⟩
              · simp [hu]
                refine pcut_at [(0, .pv (.list (l.map eC))), (1, .pv (.list (sk.map fun b => [.bool b]))), (8, .pv (.int .i64 kN)), (11, .pv (.list (ts.map fun t => [t.pt]))), (13, .pv (.int .i64 u2)), (14, .pv (.int .i64 ((c2 : Int) + 1))), (15, .own 15 (next.map fun t => [t.pt])), (16, .pv (.int .i64 q))] [] gl' gn (by simp) ?_
                simp [wideT, hq0, hq0', hql', hq1, hq1p, hA, hB, hql]
                refine (cL _).use ?_
                have hmP := pt_cells (RT.link A B)
                unfold PV.cells at hmP
                simp [hmP, w1, hwn, hq2]
                refine ⟨⟨by omega, by omega⟩, q + 2, next ++ [RT.link A B], u2, c2 + 1, sL, by omega, rfl, by omega, by simp, by omega⟩
            · have hql' : ¬ (q : Int) + 1 < ts.length := by omega
              have hqe : q = ts.length := by omega
              have hR2 : Round l N kN (j + 1) u2 c2 next := by
                refine ⟨hjk, by omega, hI.gd, ?_, hIu, by omega⟩
                have := hI.pm
                rw [List.drop_of_length_le (by omega)] at this
                simpa [RT.allL] using this
              simp [hq1, hql']
              refine ⟨j + 1, next, u2, c2, hR2, by omega, ?_⟩
              simp
          · have hone' : ¬ (1 : Int) < ts.length := by omega
            have hpw : 1 ≤ 2 ^ (kN - j) := Nat.one_le_two_pow
            have hl1 : ts.length = 1 := by omega
            have hjk : j = kN := by
              rcases Nat.lt_or_ge j kN with h | h
              · exfalso
                have : kN - j = (kN - j - 1) + 1 := by omega
                rw [this, Nat.pow_succ] at hRl
                omega
              · have := hR.le; omega
            have hT' : ∃ T, ts = [T] := by
              match ts, hl1 with
              | [T], _ => exact ⟨T, rfl⟩
            obtain ⟨T, hT⟩ := hT'
            have hg : Gd kN T := by have := hR.gd T (by rw [hT]; simp); rw [hjk] at this; exact this
            have hpm : T.all.Perm (l.take used) := by have := hR.pm; rw [hT] at this; simpa [RT.allL] using this
            have hr' : ∃ rest, sortL (l.take used) = T.x :: rest := root_first hg hpm
            obtain ⟨rest, hrest⟩ := hr'
            have hTsz : T.sz = used := by have := hpm.length_eq; rw [all_len] at this; simp at this; omega
            have hrl : rest.length ≤ 200 := by have := congrArg List.length hrest; rw [sortL_len] at this; simp at this; omega
            have cSort : ∀ gl, PCalls Tryd.prog 13 [.pv (.list (List.take used (l.map eC)))] gl fun r gl' => r = .pv (.list ((T.x :: rest).map eC)) ∧ gl' = gl := fun gl => by
              have := sort_ok (l.take used) (by simp; omega) gl
              rw [hrest, List.map_take] at this
              exact this
            have cSort2 : ∀ gl, PCalls Tryd.prog 13 [.pv (.list (T.all.map eC))] gl fun r gl' => r = .pv (.list ((T.x :: rest).map eC)) ∧ gl' = gl := fun gl => by
              have := sort_ok T.all (by rw [all_len]; omega) gl
              rw [sort_perm hpm, hrest] at this
              exact this
            have cRoot1 : ∀ gl, PCalls Tryd.prog 12 [.pv T.pt] gl fun r gl' => r = .tup [.pv (.agg [.int .i64 T.x.1, .int .i64 T.x.2]), .pv (.bool true)] ∧ gl' = gl := fun gl => by
              have := rRoot_ok (some T) gl
              exact this
            have cRank1 : ∀ gl, PCalls Tryd.prog 14 [.pv T.pt] gl fun r gl' => r = .pv (.int .i64 kN) ∧ gl' = gl := fun gl => by
              have := cRank (some T) gl
              simp only [oRank, hg.rk] at this
              exact this
            have cRight1 : ∀ gl, PCalls Tryd.prog 15 [.pv T.pt] gl fun r gl' => r = .pv (.bool true) ∧ gl' = gl := fun gl => by
              have := rRight_ok (some T) (by rintro u ⟨rfl⟩; omega) gl
              simp only [oRight, hg.rt] at this
              exact this
            have cSize1 : ∀ gl, PCalls Tryd.prog 16 [.pv T.pt] gl fun r gl' => r = .pv (.int .i64 used) ∧ gl' = gl := fun gl => by
              have := cSize (some T) gl
              simp only [oSz, hTsz] at this
              exact this
            have cAll1 : ∀ gl, PCalls Tryd.prog 18 [.pv T.pt] gl fun r gl' => r = .fresh (T.all.map eC) ∧ gl' = gl := fun gl => cAll (some T) (by rintro u ⟨rfl⟩; omega) gl
            have cSame1 : ∀ gl, PCalls Tryd.prog 17 [.pv (.list ((T.x :: rest).map eC)), .pv (.list ((T.x :: rest).map eC))] gl fun r gl' => r = .pv (.bool true) ∧ gl' = gl := fun gl => by
              have := same_ok (T.x :: rest) (T.x :: rest) (by simp; omega) (by simp; omega) gl
              simpa using this
            have hus : (used : Int) ≤ l.length := by omega
            have wts := wideT ts
            rw [hT] at wts
            simp only [List.map_cons, List.map_nil] at wts
            have w2 := wide2 (T.x :: rest)
            simp only [List.map_cons, eC] at cSort cSort2 cSame1 w2
            simp [hone, hone']
            refine pcut_at [(0, .pv (.list (l.map eC))), (8, .pv (.int .i64 kN)), (11, .pv (.list [[T.pt]])), (13, .pv (.int .i64 used))] [] gl' gn (by simp [hT]) ?_
            simp [wts]
            refine (cRoot1 _).use ?_
            simp
            refine pcut_at [(0, .pv (.list (l.map eC))), (8, .pv (.int .i64 kN)), (13, .pv (.int .i64 used)), (17, .pv T.pt), (18, .loc 18 0), (19, .pv (.bool true))] [(18, [.int .i64 T.x.1, .int .i64 T.x.2])] gl' gn (by simp) ?_
            simp [wide2, hus]
            refine (cSort _).use ?_
            simp
            refine pcut_at [(8, .pv (.int .i64 kN)), (13, .pv (.int .i64 used)), (17, .pv T.pt), (18, .loc 18 0), (19, .pv (.bool true)), (20, .pv (.list ([.int .i64 T.x.1, .int .i64 T.x.2] :: rest.map eC)))] [(18, [.int .i64 T.x.1, .int .i64 T.x.2])] gl' gn (by simp) ?_
            simp [w2, pairEq]
            refine (cRank1 _).use ?_
            simp
            refine (cRight1 _).use ?_
            simp
            refine (cSize1 _).use ?_
            simp
            refine (cAll1 _).use ?_
            simp
            refine (cSort2 _).use ?_
            simp
            refine (cSame1 _).use ?_
            simp
end Go.Proofs.YtbekdlgkoleblaaDoor
