/- LeftistLeast. -/
import Derived.Test.YtgbcjpdhmjikgaaDoorD2
namespace Go.Proofs.YtgbcjpdhmjikgaaDoor
set_option linter.unusedSimpArgs false

theorem pop_isz {t : LT} {l : List El} (h : Is t l) : t.pop.1.sz = l.length - 1 := by rw [pop_sz, h.sz]

/-- The root of a heap that has one more. -/
theorem ins_hd (t : LT) (l : List El) (h : Is t l) (p i : Int) : (t.ins p i).1.some? = true ∧
    (t.some? = false → (t.ins p i).1.hd = (p, i)) ∧ (t.some? = true → ltI p i t.hd.1 t.hd.2 = true → (t.ins p i).1.hd = (p, i)) ∧
    (t.some? = true → ltI p i t.hd.1 t.hd.2 = false → (t.ins p i).1.hd = t.hd) := by
  have hi := h.ins p i
  have hs : (t.ins p i).1.some? = true := by rw [some_iff, decide_eq_true_iff, hi.sz]; simp
  have h1 := (hi.hd hs).1
  have hm : (t.ins p i).1.hd ∈ (p, i) :: l := (sortL_perm _).subset (by rw [h1]; exact List.mem_cons_self ..)
  have hle : ∀ x ∈ (p, i) :: l, le (t.ins p i).1.hd x := by
    intro x hx
    have hx' := (sortL_perm ((p, i) :: l)).symm.subset hx
    have := sortL_srt ((p, i) :: l)
    rw [h1] at hx' this
    rcases List.mem_cons.1 hx' with rfl | hx'
    · exact le_refl _
    · exact (List.pairwise_cons.1 this).1 x hx'
  refine ⟨hs, fun hn => ?_, fun hn hl => ?_, fun hn hl => ?_⟩
  · obtain ⟨rfl, rfl⟩ := h.none hn
    simpa using hm
  · have ho : ∀ x ∈ l, le t.hd x := by
      intro x hx
      have hx' := (sortL_perm l).symm.subset hx
      have := sortL_srt l
      rw [(h.hd hn).1] at hx' this
      rcases List.mem_cons.1 hx' with rfl | hx'
      · exact le_refl _
      · exact (List.pairwise_cons.1 this).1 x hx'
    have hpt : le (p, i) t.hd := lt_le (x := (p, i)) hl
    refine le_antisymm (hle _ (List.mem_cons_self ..)) ?_
    rcases List.mem_cons.1 hm with h2 | h2
    · rw [h2]; exact le_refl _
    · exact le_trans hpt (ho _ h2)
  · have ht : t.hd ∈ l := (sortL_perm l).subset (by rw [(h.hd hn).1]; exact List.mem_cons_self ..)
    have htp : le t.hd (p, i) := hl
    refine le_antisymm (hle _ (List.mem_cons_of_mem _ ht)) ?_
    rcases List.mem_cons.1 hm with h2 | h2
    · rw [h2]; exact htp
    · have ho : ∀ x ∈ l, le t.hd x := by
        intro x hx
        have hx' := (sortL_perm l).symm.subset hx
        have := sortL_srt l
        rw [(h.hd hn).1] at hx' this
        rcases List.mem_cons.1 hx' with rfl | hx'
        · exact le_refl _
        · exact (List.pairwise_cons.1 this).1 x hx'
      exact ho _ h2

/-- What is left without the root: the others, or all but the old root, and the new one. -/
theorem ins_rest (t : LT) (l : List El) (h : Is t l) (p i : Int) : Is (t.ins p i).1.pop.1 (if t.some? = true ∧ ltI p i t.hd.1 t.hd.2 = false then putL (sortL l).tail (p, i) else l) := by
  have hi := h.ins p i
  obtain ⟨hs, h1, h2, h3⟩ := ins_hd t l h p i
  have hp := (hi.hd hs).2
  have he := (hi.hd hs).1
  have key : ((t.ins p i).1.hd :: (sortL ((p, i) :: l)).tail).Perm ((p, i) :: l) := by
    have := sortL_perm ((p, i) :: l)
    rw [he] at this ⊢
    exact this
  split
  · rename_i hc
    rw [h3 hc.1 hc.2] at key
    refine hp.to ?_
    have e2 : (t.hd :: (sortL l).tail).Perm l := by
      have := sortL_perm l
      rw [(h.hd hc.1).1] at this ⊢
      exact this
    have : (t.hd :: (sortL ((p, i) :: l)).tail).Perm (t.hd :: ((p, i) :: (sortL l).tail)) :=
      key.trans ((e2.symm.cons _).trans (.swap _ _ _))
    exact ((List.perm_cons _).1 this).trans (putL_perm _ _).symm
  · rename_i hc
    have : (t.ins p i).1.hd = (p, i) := by
      cases hn : t.some? with
      | false => exact h1 hn
      | true => exact h2 hn (by simpa [hn] using hc)
    rw [this] at key
    exact hp.to ((List.perm_cons _).1 key)

set_option maxHeartbeats 8000000 in
set_option maxRecDepth 4000 in
theorem least_ok (a : List El) (x : El) (n : Int) (_ : ∀ x ∈ a, inE x) (_ : inE x) (hn : 0 ≤ n ∧ n < 256) (gl : Nat → Int × Int) : PCalls Tryd.prog 6 [.pv (.list (a.map eC)), .pv (.agg (eC x)), .pv (.int .u8 n)] gl fun r _ => r = .pv (.bool true) := by
  obtain ⟨p, i⟩ := x
  refine pcalls_of_pwp (cutImm [6, 14, 18] noImm) Tryd.func6 rfl (by simp) mixed (by kernel_rfl) fun gn => ?_
  simp [eC]
  refine (awake_ok _).mono fun r gl' h => ?_
  subst h
  by_cases ha' : (60 : Int) < a.length
  · simp [ha']
  · simp [ha']
    refine pcut_at [(0, .pv (.list (a.map eC))), (2, .pv (.int .u8 n)), (4, .loc 4 0)] [(4, [.int .i64 p, .int .i64 i])] gl' gn (by simp) ?_
    simp
    refine (ofN_ok a (by omega) _).use ?_
    simp
    refine pwp_loopS (α := Nat × LT × List El) (fun s => Is s.2.1 s.2.2 ∧ s.2.2.length ≤ 60 ∧ s.1 ≤ 6)
      (fun s => [(2, .pv (.int .u8 n)), (4, .loc 4 0), (8, .loc 8 0), (9, .pv (.int .i64 s.1))]) (fun s => [(4, [.int .i64 p, .int .i64 i]), (8, [s.2.1.pt])]) (fun _ => gl') (fun _ => gn) (fun s => 6 - s.1) (0, ofT a, a) ⟨Is.of a, by simp only; omega, by simp⟩ (by simp) ?_
    rintro ⟨k, t, l⟩ ⟨hi, hl, hk⟩
    simp only at hi hk hl
    have hw : IntKind.i64.wrap n = n := wr _ (by omega) (by omega)
    have hm := u8_mod n 6 hn.1
    have hs := hi.sz
    by_cases hlt : (k : Int) < n % 6
    · simp [hw, hm, hlt]
      refine (popN_ok t (by omega) _).use ?_
      simp
      have hq : Is t.pop.1 t.pop.1.els := ⟨pop_hp t hi.hp, .refl _⟩
      have := hq.sz
      have := pop_sz t
      refine ⟨k + 1, t.pop.1, ⟨_, hq, by omega, by omega⟩, by omega, wr _ (by omega) (by omega), rfl⟩
    · simp [hw, hm, hlt]
      have hy := (ins_hd t l hi p i).1
      have h1 := (ins_hd t l hi p i).2.1
      have h2 := (ins_hd t l hi p i).2.2.1
      have h3 := (ins_hd t l hi p i).2.2.2
      have hr := ins_rest t l hi p i
      have hii := hi.ins p i
      have hisz := hii.sz
      simp at hisz
      refine (minN_ok t _).use ?_
      simp
      refine (insN_ok t p i (by omega) _).use ?_
      simp
      refine (minN_ok _ _).use ?_
      simp [hy]
      refine pcut_at [(4, .loc 4 0), (8, .loc 8 0), (10, .loc 10 0), (11, .pv (.bool t.some?)), (12, .loc 12 0), (13, .loc 13 0), (14, .pv (.bool true))]
        [(4, [.int .i64 p, .int .i64 i]), (8, [t.pt]), (10, [.int .i64 t.hd.1, .int .i64 t.hd.2]), (12, [(t.ins p i).1.pt]), (13, [.int .i64 (t.ins p i).1.hd.1, .int .i64 (t.ins p i).1.hd.2])] gl' gn (by simp) ?_
      have pz := pop_sz (t.ins p i).1
      have f1 : IntKind.i64.wrap ((t.sz : Int) + 1) = (t.ins p i).1.sz := by rw [wr _ (by omega) (by omega)]; omega
      have f2 : (t.ins p i).1.pop.1.sz = t.sz := by omega
      have hll := sortL_len l
      by_cases hn : t.some? = true
      · by_cases hle : ltI p i t.hd.1 t.hd.2 = true
        · have e1 := h2 hn hle
          have hr' : Is (t.ins p i).1.pop.1 l := by simpa [hn, hle] using hr
          simp [hn, e1]
          refine (refLess_ok _ _ _ _ _).use ?_
          simp [hn, hle, e1, pairEq]
          refine (sizeN_ok _ _).use ?_
          simp
          refine (sizeN_ok _ _).use ?_
          simp [f1, hy]
          refine (popN_ok (t.ins p i).1 (by omega) _).use ?_
          simp [hy]
          refine pcut_at [(4, .loc 4 0), (8, .loc 8 0), (15, .pv (.bool true)), (16, .loc 16 0), (17, .pv (.bool true))]
            [(4, [.int .i64 p, .int .i64 i]), (8, [t.pt]), (16, [(t.ins p i).1.pop.1.pt])] gl' gn (by simp) ?_
          simp
          refine (sizeN_ok _ _).use ?_
          simp
          refine (sizeN_ok _ _).use ?_
          simp [f2]
          refine (drI_ok hi l (.refl _) 200 (by omega) (by omega) (by omega) _).use ?_
          simp
          refine (drI_ok hr' l (.refl _) 200 (by omega) (by omega) (by omega) _).use ?_
          simp
          refine (sameN_ok _ _ rfl (by omega) _).use ?_
          simp
        · have hle' : ltI p i t.hd.1 t.hd.2 = false := by simpa using hle
          have e1 := h3 hn hle'
          have hr' : Is (t.ins p i).1.pop.1 (putL (sortL l).tail (p, i)) := by simpa [hn, hle'] using hr
          have CP := fun gl => put_ok (sortL l).tail p i (by simp; omega) gl
          simp only [List.map_tail, eP] at CP
          have hps : Srt (putL (sortL l).tail (p, i)) := putL_srt _ _ ((sortL_srt l).sublist (List.tail_sublist _))
          have h0 : 0 < l.length := by have := some_iff t; rw [hn] at this; have := of_decide_eq_true this.symm; omega
          simp [hn, e1]
          refine (refLess_ok _ _ _ _ _).use ?_
          simp [hn, hle', e1, pairEq]
          refine (sizeN_ok _ _).use ?_
          simp
          refine (sizeN_ok _ _).use ?_
          simp [f1, hy]
          refine (popN_ok (t.ins p i).1 (by omega) _).use ?_
          simp [hy]
          refine pcut_at [(4, .loc 4 0), (8, .loc 8 0), (15, .pv (.bool false)), (16, .loc 16 0), (17, .pv (.bool true))]
            [(4, [.int .i64 p, .int .i64 i]), (8, [t.pt]), (16, [(t.ins p i).1.pop.1.pt])] gl' gn (by simp) ?_
          simp
          refine (sizeN_ok _ _).use ?_
          simp
          refine (sizeN_ok _ _).use ?_
          simp [f2]
          refine (drI_ok hi l (.refl _) 200 (by omega) (by omega) (by omega) _).use ?_
          simp
          refine ⟨⟨wide2 _, by omega⟩, ?_⟩
          refine (CP _).use ?_
          simp
          refine (drainN_ok _ 200 (putL (sortL l).tail (p, i)) (by rw [hr'.sort]; exact sort_srt hps) (by omega) (by omega) hr'.hp (by rw [hr'.sz, putL_len]; simp; omega) _).use ?_
          simp
          refine (sameN_ok _ _ rfl (by rw [putL_len]; simp; omega) _).use ?_
          simp
      · have hn' : t.some? = false := by simpa using hn
        have e1 := h1 hn'
        have hr' : Is (t.ins p i).1.pop.1 l := by simpa [hn'] using hr
        simp [hn', e1, pairEq]
        refine (sizeN_ok _ _).use ?_
        simp
        refine (sizeN_ok _ _).use ?_
        simp [f1, hy]
        refine (popN_ok (t.ins p i).1 (by omega) _).use ?_
        simp [hy]
        refine pcut_at [(4, .loc 4 0), (8, .loc 8 0), (15, .pv (.bool true)), (16, .loc 16 0), (17, .pv (.bool true))]
          [(4, [.int .i64 p, .int .i64 i]), (8, [t.pt]), (16, [(t.ins p i).1.pop.1.pt])] gl' gn (by simp) ?_
        simp
        refine (sizeN_ok _ _).use ?_
        simp
        refine (sizeN_ok _ _).use ?_
        simp [f2]
        refine (drI_ok hi l (.refl _) 200 (by omega) (by omega) (by omega) _).use ?_
        simp
        refine (drI_ok hr' l (.refl _) 200 (by omega) (by omega) (by omega) _).use ?_
        simp
        refine (sameN_ok _ _ rfl (by omega) _).use ?_
        simp
end Go.Proofs.YtgbcjpdhmjikgaaDoor
