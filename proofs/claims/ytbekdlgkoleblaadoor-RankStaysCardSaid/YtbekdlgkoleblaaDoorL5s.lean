/- RankStays: the walk, over what its calls answer. -/
import Derived.Test.YtbekdlgkoleblaaDoorL5b
namespace Go.Proofs.YtbekdlgkoleblaaDoor
set_option linter.unusedSimpArgs false
set_option linter.unusedVariables false

/-- Whole numbers, all of them. -/
def Ints (cells : List PV) : Prop := ∀ p ∈ cells, ∃ n, p = .int .i64 n
theorem Ints.at {cells : List PV} (h : Ints cells) {k : Nat} (hk : k < cells.length) : ∃ v, cells[k]? = some (.int .i64 v) := by
  obtain ⟨v, hv⟩ := h _ (List.getElem_mem hk)
  exact ⟨v, by rw [List.getElem?_eq_getElem hk, hv]⟩
theorem Ints.put {cells : List PV} (h : Ints cells) (k : Nat) (v : Int) : Ints (cells.take k ++ ([.int .i64 v] ++ cells.drop (k + 1))) := by
  intro p hp
  rcases List.mem_append.1 hp with hp | hp
  · exact h p (List.mem_of_mem_take hp)
  · rcases List.mem_append.1 hp with hp | hp
    · exact ⟨v, List.mem_singleton.1 hp⟩
    · exact h p (List.mem_of_mem_drop hp)

set_option maxRecDepth 4000 in
set_option maxHeartbeats 16000000 in
theorem stays_core (rows : List (List PV)) (a0 a1 a2 a3 x : El) (l0 l1 l2 l3 pS pT pU pV : PV) (tS tT tU : List UInt8) (KR AR BR : List (List PV))
    (hw : Wide 2 rows) (hl : 4 ≤ rows.length ∧ rows.length ≤ 60) (h0 : rows[0]? = some (eC a0)) (h1 : rows[1]? = some (eC a1)) (h2 : rows[2]? = some (eC a2)) (h3 : rows[3]? = some (eC a3))
    (c0 : ∀ gl, PCalls Tryd.prog 9 [.pv .nilp, .pv (.agg [.int .i64 a0.1, .int .i64 a0.2])] gl fun r gl' => r = .pv l0 ∧ gl' = gl)
    (c1 : ∀ gl, PCalls Tryd.prog 9 [.pv .nilp, .pv (.agg [.int .i64 a1.1, .int .i64 a1.2])] gl fun r gl' => r = .pv l1 ∧ gl' = gl)
    (c2 : ∀ gl, PCalls Tryd.prog 9 [.pv .nilp, .pv (.agg [.int .i64 a2.1, .int .i64 a2.2])] gl fun r gl' => r = .pv l2 ∧ gl' = gl)
    (c3 : ∀ gl, PCalls Tryd.prog 9 [.pv .nilp, .pv (.agg [.int .i64 a3.1, .int .i64 a3.2])] gl fun r gl' => r = .pv l3 ∧ gl' = gl)
    (cS : ∀ gl, PCalls Tryd.prog 11 [.pv .nilp, .pv l0, .pv l1] gl fun r gl' => r = .pv pS ∧ gl' = gl)
    (cT : ∀ gl, PCalls Tryd.prog 10 [.pv .nilp, .pv (.agg [.int .i64 x.1, .int .i64 x.2]), .pv l2, .pv l3] gl fun r gl' => r = .pv pT ∧ gl' = gl)
    (cU : ∀ gl, PCalls Tryd.prog 11 [.pv .nilp, .pv pS, .pv pT] gl fun r gl' => r = .pv pU ∧ gl' = gl)
    (cV : ∀ gl, PCalls Tryd.prog 10 [.pv .nilp, .pv (.agg [.int .i64 x.1, .int .i64 x.2]), .pv pS, .pv pT] gl fun r gl' => r = .pv pV ∧ gl' = gl)
    (sS : ∀ gl, PCalls Tryd.prog 26 [.pv pS] gl fun r gl' => r = .pv (.str tS) ∧ gl' = gl)
    (sT : ∀ gl, PCalls Tryd.prog 26 [.pv pT] gl fun r gl' => r = .pv (.str tT) ∧ gl' = gl)
    (sU : ∀ gl, PCalls Tryd.prog 26 [.pv pU] gl fun r gl' => r = .pv (.str tU) ∧ gl' = gl)
    (kK : ∀ gl, PCalls Tryd.prog 31 [.pv pU] gl fun r gl' => r = .fresh KR ∧ gl' = gl)
    (kA : ∀ gl, PCalls Tryd.prog 18 [.pv pV] gl fun r gl' => r = .fresh AR ∧ gl' = gl)
    (kB : ∀ gl, PCalls Tryd.prog 20 [.pv pV] gl fun r gl' => r = .fresh BR ∧ gl' = gl)
    (wK : Wide 1 KR) (nK : KR.length = 2) (wA : Wide 2 AR) (nA : 0 < AR.length ∧ AR.length ≤ 1000) (iA : ∀ x ∈ AR, ∀ p ∈ x, ∃ n, p = .int .i64 n) (wB : Wide 2 BR) (nB : 0 < BR.length ∧ BR.length ≤ 1000) (iB : ∀ x ∈ BR, ∀ p ∈ x, ∃ n, p = .int .i64 n)
    (zU : ∀ gl, PCalls Tryd.prog 16 [.pv pU] gl fun r gl' => r = .pv (.int .i64 5) ∧ gl' = gl)
    (zV : ∀ gl, PCalls Tryd.prog 16 [.pv pV] gl fun r gl' => r = .pv (.int .i64 6) ∧ gl' = gl)
    (rU : ∀ gl, PCalls Tryd.prog 14 [.pv pU] gl fun r gl' => r = .pv (.int .i64 2) ∧ gl' = gl)
    (rV : ∀ gl, PCalls Tryd.prog 14 [.pv pV] gl fun r gl' => r = .pv (.int .i64 2) ∧ gl' = gl)
    (gl : Nat → Int × Int) : PCalls Tryd.prog 7 [.pv (.list rows), .pv (.agg (eC x))] gl fun r _ => r = .pv (.bool true) := by
  obtain ⟨hl4, hl60⟩ := hl
  have e4 : decide ((rows.length : Int) < 4) = false := decide_eq_false (by omega)
  have e60 : decide (60 < (rows.length : Int)) = false := decide_eq_false (by omega)
  have g0 : 0 < rows.length := by omega
  have g1 : 1 < rows.length := by omega
  have g2 : 2 < rows.length := by omega
  have g3 : 3 < rows.length := by omega
  have j1 : (1 : Int) < rows.length := by omega
  have j2 : (2 : Int) < rows.length := by omega
  have j3 : (3 : Int) < rows.length := by omega
  simp only [eC] at h0 h1 h2 h3 ⊢
  have q0 : rows[0]'g0 = [.int .i64 a0.1, .int .i64 a0.2] := by rw [List.getElem?_eq_getElem g0] at h0; exact Option.some.inj h0
  have q1 : rows[1]'g1 = [.int .i64 a1.1, .int .i64 a1.2] := by rw [List.getElem?_eq_getElem g1] at h1; exact Option.some.inj h1
  have q2 : rows[2]'g2 = [.int .i64 a2.1, .int .i64 a2.2] := by rw [List.getElem?_eq_getElem g2] at h2; exact Option.some.inj h2
  have q3 : rows[3]'g3 = [.int .i64 a3.1, .int .i64 a3.2] := by rw [List.getElem?_eq_getElem g3] at h3; exact Option.some.inj h3
  refine pcalls_of_pwp (adoptImm [13, 18, 19] (cutImm [6, 28] noImm)) Tryd.func7 rfl (by simp) mixed (by kernel_rfl) fun gn => ?_
  simp
  refine (awake_ok gl).mono ?_
  rintro r gl1 rfl
  simp [e4, e60]
  refine pcut_at [(0, .pv (.list rows)), (3, .loc 3 0)] [(3, [.int .i64 x.1, .int .i64 x.2])] gl1 gn (by simp) ?_
  simp [hw, q0, g0]
  refine (c0 _).use ?_
  simp [hw, q1, g1, j1]
  refine (c1 _).use ?_
  simp
  refine (cS _).use ?_
  simp [hw, q2, g2, j2]
  refine (c2 _).use ?_
  simp [hw, q3, g3, j3]
  refine (c3 _).use ?_
  simp
  refine (cT _).use ?_
  simp
  refine (sS _).use ?_
  simp
  refine (sT _).use ?_
  simp
  refine (cU _).use ?_
  simp
  refine (cV _).use ?_
  simp
  refine (sU _).use ?_
  simp
  refine padoptC_use (f := 31) (l := [.pv pU]) (by simp [pcallOf, ptarget]) (fun _ _ => rfl) (by decide) (by simp) KR (by intro e; rw [e] at nK; cases nK) (by simpa using kK gl1) fun cK hK => ?_
  have lK : cK.length = 2 := by have := hK.len 1 wK; omega
  clear hK
  simp [nK]
  refine pwp_loopS (α := Nat × List PV) (fun p => p.1 ≤ 2 ∧ p.2.length = 2)
    (fun p => [(6, .pv pS), (7, .pv pT), (8, .pv (.str tS)), (9, .pv (.str tT)), (10, .pv pU), (11, .pv pV), (12, .pv (.str tU)), (13, .lrow 63 2), (14, .pv (.int .i64 p.1))]) (fun p => [(63, p.2)]) (fun _ => gl1) (fun _ => gn) (fun p => 2 - p.1) (0, cK) ⟨by simp, lK⟩ (by simp) ?_
  rintro ⟨i, cK⟩ ⟨hi, lK⟩
  simp only at hi lK
  simp
  by_cases hlt : (i : Int) < 2
  · rw [if_pos hlt]
    refine ⟨hlt, by omega, i + 1, _, ⟨by omega, ?_⟩, by omega, ?_, rfl⟩
    · simp; omega
    · rw [wr _ (by omega) (by omega)]; simp
  rw [if_neg hlt]
  refine padoptC_use (f := 18) (l := [.pv pV]) (by simp [pcallOf, ptarget]) (fun _ _ => rfl) (by decide) (by simp) AR (by intro e; rw [e] at nA; simp at nA) (by simpa using kA gl1) fun cA hA => ?_
  have lA : cA.length = AR.length * 2 := hA.len 2 wA
  have jA : Ints cA := hA.ints iA
  clear hA
  simp
  refine padoptC_use (f := 20) (l := [.pv pV]) (by simp [pcallOf, ptarget]) (fun _ _ => rfl) (by decide) (by simp) BR (by intro e; rw [e] at nB; simp at nB) (by simpa using kB gl1) fun cB hB => ?_
  have lB : cB.length = BR.length * 2 := hB.len 2 wB
  have jB : Ints cB := hB.ints iB
  clear hB
  simp
  generalize AR.length = n at *
  generalize BR.length = m at *
  obtain ⟨nA1, nA2⟩ := nA
  obtain ⟨nB1, nB2⟩ := nB
  refine pwp_loopS (α := Nat × List PV) (fun p => p.1 ≤ n ∧ p.2.length = n * 2 ∧ Ints p.2)
    (fun p => [(6, .pv pS), (7, .pv pT), (8, .pv (.str tS)), (9, .pv (.str tT)), (10, .pv pU), (11, .pv pV), (12, .pv (.str tU)), (13, .lrow 63 2), (15, .lrow 74 n), (16, .lrow 76 m), (17, .pv (.int .i64 p.1))]) (fun p => [(63, cK), (74, p.2), (76, cB)]) (fun _ => gl1) (fun _ => gn) (fun p => n - p.1) (0, cA) ⟨by simp, lA, jA⟩ (by simp) ?_
  rintro ⟨j, cA⟩ ⟨hj, lA, jA⟩
  simp only at hj lA jA
  simp
  by_cases hlt2 : j < n
  · obtain ⟨v, hv⟩ := jA.at (k := j * 2) (by omega)
    simp [hlt2, hv]
    refine ⟨by omega, j + 1, _, ⟨by omega, ?_, jA.put _ _⟩, by omega, ?_, rfl⟩
    · simp; omega
    · rw [wr _ (by omega) (by omega)]; simp
  rw [if_neg hlt2]
  refine pwp_loopS (α := Nat × List PV) (fun p => p.1 ≤ m ∧ p.2.length = m * 2 ∧ Ints p.2)
    (fun p => [(6, .pv pS), (7, .pv pT), (8, .pv (.str tS)), (9, .pv (.str tT)), (10, .pv pU), (11, .pv pV), (12, .pv (.str tU)), (13, .lrow 63 2), (16, .lrow 76 m), (18, .pv (.int .i64 p.1))]) (fun p => [(63, cK), (76, p.2)]) (fun _ => gl1) (fun _ => gn) (fun p => m - p.1) (0, cB) ⟨by simp, lB, jB⟩ (by simp) ?_
  rintro ⟨k, cB⟩ ⟨hk, lB, jB⟩
  simp only at hk lB jB
  simp
  by_cases hlt3 : k < m
  · obtain ⟨v, hv⟩ := jB.at (k := k * 2) (by omega)
    simp [hlt3, hv]
    refine ⟨by omega, k + 1, _, ⟨by omega, ?_, jB.put _ _⟩, by omega, ?_, rfl⟩
    · simp; omega
    · rw [wr _ (by omega) (by omega)]; simp
  rw [if_neg hlt3]
  refine pcut_at [(6, .pv pS), (7, .pv pT), (8, .pv (.str tS)), (9, .pv (.str tT)), (10, .pv pU), (11, .pv pV), (12, .pv (.str tU)), (13, .lrow 63 2)] [(63, cK)] gl1 gn (by simp) ?_
  clear kK kA kB c0 c1 c2 c3 cS cT cU cV hw h0 h1 h2 h3 q0 q1 q2 q3 wK wA wB
  simp (config := { maxSteps := 10000000 })
  refine (sS _).use ?_
  simp (config := { maxSteps := 10000000 })
  refine (sT _).use ?_
  simp (config := { maxSteps := 10000000 })
  refine (sU _).use ?_
  simp (config := { maxSteps := 10000000 })
  refine (zU _).use ?_
  simp (config := { maxSteps := 10000000 })
  refine (zV _).use ?_
  simp (config := { maxSteps := 10000000 })
  refine (rU _).use ?_
  simp (config := { maxSteps := 10000000 })
  refine (rV _).use ?_
  simp (config := { maxSteps := 10000000 })
end Go.Proofs.YtbekdlgkoleblaaDoor
