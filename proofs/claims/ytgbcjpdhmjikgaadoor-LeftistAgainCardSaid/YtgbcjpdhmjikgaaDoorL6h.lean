/- LeftistAgain. -/
import Derived.Test.YtgbcjpdhmjikgaaDoorD2
namespace Go.Proofs.YtgbcjpdhmjikgaaDoor
set_option linter.unusedSimpArgs false
set_option linter.unusedVariables false

theorem getD_get (l : List El) (i : Nat) (h : i < l.length) : l.getD i (0, 0) = l[i] := (List.getElem_eq_getD (0, 0)).symm

/-- Read round and round. -/
theorem rot_perm (l : List El) (b : Nat) : ((List.range l.length).map fun i => l.getD ((i + b) % l.length) (0, 0)).Perm l := by
  rcases Nat.eq_zero_or_pos l.length with h0 | h0
  · rw [List.length_eq_zero_iff] at h0; subst h0; exact .refl _
  · have hr : b % l.length < l.length := Nat.mod_lt _ h0
    have : ((List.range l.length).map fun i => l.getD ((i + b) % l.length) (0, 0)) = l.drop (b % l.length) ++ l.take (b % l.length) := by
      apply List.ext_getElem
      · simp; omega
      · intro i h1 h2
        have hi : i < l.length := by simpa using h1
        have e : (i + b) % l.length = if i + b % l.length < l.length then i + b % l.length else i + b % l.length - l.length := by
          rw [Nat.add_mod, Nat.mod_eq_of_lt hi]
          split
          · exact Nat.mod_eq_of_lt (by assumption)
          · rw [Nat.mod_eq_sub_mod (by omega)]; exact Nat.mod_eq_of_lt (by omega)
        rw [List.getElem_map, List.getElem_range, e]
        by_cases hlt : i + b % l.length < l.length
        · rw [if_pos hlt, List.getElem_append_left (by simp; omega), List.getElem_drop, getD_get _ _ hlt]
          simp only [Nat.add_comm]
        · rw [if_neg hlt, List.getElem_append_right (by simp; omega), List.getElem_take, getD_get _ _ (by omega)]
          congr 1
          simp; omega
    rw [this]
    exact List.perm_append_comm.trans (by rw [List.take_append_drop])

/-- What is taken out next. -/
theorem again_next {t : LT} {S : List El} {k : Nat} (hs : Srt S) (h : Is t (S.drop k)) :
    (t.some? = true → k < S.length ∧ S.take (k + 1) = S.take k ++ [t.hd] ∧ Is t.pop.1 (S.drop (k + 1))) ∧
    (t.some? = false → S.take (k + 1) = S.take k ∧ Is t (S.drop (k + 1)) ∧ t.pop.1 = t) := by
  constructor
  · intro hn
    have hsz := h.sz
    have hpos : 0 < t.sz := by have := some_iff t; rw [hn] at this; exact of_decide_eq_true this.symm
    have hk : k < S.length := by rw [hsz, List.length_drop] at hpos; omega
    have hd := h.hd hn
    have hss : Srt (S.drop k) := hs.sublist (List.drop_sublist _ _)
    rw [sort_srt hss] at hd
    have he : t.hd = S[k] := by
      have := hd.1
      rw [List.drop_eq_getElem_cons hk] at this
      injection this with this _
      exact this.symm
    refine ⟨hk, by rw [he]; exact List.take_succ_eq_append_getElem hk, ?_⟩
    have := hd.2
    rwa [List.tail_drop] at this
  · intro hn
    have hd := h.none hn
    have hk : S.length ≤ k := by
      have := congrArg List.length hd.2
      simp at this; omega
    refine ⟨by rw [List.take_of_length_le (by omega), List.take_of_length_le hk], ?_, ?_⟩
    · rw [List.drop_eq_nil_of_le (by omega), ← hd.2]; exact h
    · rw [hd.1]; rfl

def rotK (l : List El) (b k : Nat) : List El := (List.range k).map fun i => l.getD ((i + b) % l.length) (0, 0)
theorem rotK_next (l : List El) (b k j : Nat) (hj : (k + b) % l.length = j) (h : j < l.length) : (l[j] :: rotK l b k).Perm (rotK l b (k + 1)) := by
  subst hj
  unfold rotK
  rw [List.range_succ, List.map_append]
  simp only [List.map_cons, List.map_nil, getD_get _ _ h]
  exact List.perm_append_singleton _ _ |>.symm
theorem back_next (l : List El) (k : Nat) (h : k < l.length) : l.drop (l.length - (k + 1)) = l[l.length - 1 - k]'(by omega) :: l.drop (l.length - k) := by
  rw [List.drop_eq_getElem_cons (by omega)]
  congr 1
  · congr 1; omega
  · congr 1; omega

set_option maxHeartbeats 8000000 in
set_option maxRecDepth 4000 in
theorem again_ok (a : List El) (n b : Int) (_ : ∀ x ∈ a, inE x) (hn : 0 ≤ n ∧ n < 256) (hb : 0 ≤ b ∧ b < 256) (gl : Nat → Int × Int) : PCalls Tryd.prog 11 [.pv (.list (a.map eC)), .pv (.int .u8 n), .pv (.int .u8 b)] gl fun r _ => r = .pv (.bool true) := by
  obtain ⟨b', rfl⟩ : ∃ k : Nat, b = k := ⟨b.toNat, by omega⟩
  have hS := sortL_srt a
  have hSl := sortL_len a
  have hSp := sortL_perm a
  have hwn : IntKind.i64.wrap n = n := wr _ (by omega) (by omega)
  have hwb : IntKind.i64.wrap (b' : Int) = b' := wr _ (by omega) (by omega)
  have hm := u8_mod n 12 hn.1
  have xa := Is.of a
  have sa := xa.sz
  have w1 : ∀ x : El, Wide 2 [[PV.int IntKind.i64 x.1, PV.int IntKind.i64 x.2]] := fun x y hy => by rw [List.mem_singleton.1 hy]; rfl
  have hwt : ∀ k, Wide 2 (List.take k (List.map eC (sortL a))) := fun k x hx => wide2 _ x (List.mem_of_mem_take hx)
  refine pcalls_of_pwp (cutImm [6, 11, 18, 23, 24, 25, 26] noImm) Tryd.func11 rfl (by simp) mixed (by kernel_rfl) fun gn => ?_
  simp
  refine (awake_ok _).mono fun r gl' h => ?_
  subst h
  by_cases ha' : (40 : Int) < a.length
  · simp [ha']
  · simp [ha']
    refine pcut_at [(0, .pv (.list (a.map eC))), (1, .pv (.int .u8 n)), (2, .pv (.int .u8 b'))] [] gl' gn (by simp) ?_
    simp
    refine (ofN_ok a (by omega) _).use ?_
    simp
    refine pwp_loopS (α := Nat × LT) (fun s => Is s.2 ((sortL a).drop s.1) ∧ s.1 ≤ 12)
      (fun s => [(0, .pv (.list (a.map eC))), (1, .pv (.int .u8 n)), (2, .pv (.int .u8 b')), (8, .loc 8 0), (9, .own 9 (((sortL a).take s.1).map eC)), (10, .pv (.int .i64 s.1))]) (fun s => [(8, [s.2.pt])]) (fun _ => gl') (fun _ => gn) (fun s => 12 - s.1) (0, ofT a) ⟨xa.to hSp.symm, by simp⟩ (by simp) ?_
    rintro ⟨k, t⟩ ⟨hi, hk⟩
    simp only at hi hk
    have hsz := hi.sz
    rw [List.length_drop] at hsz
    have nx := again_next hS hi
    by_cases hlt : (k : Int) < n % 12
    · simp [hwn, hm, hlt]
      refine pcut_at [(0, .pv (.list (a.map eC))), (1, .pv (.int .u8 n)), (2, .pv (.int .u8 b')), (8, .loc 8 0), (9, .own 9 (((sortL a).take k).map eC)), (10, .pv (.int .i64 k))] [(8, [t.pt])] gl' gn (by simp) ?_
      by_cases hs : t.some? = true
      · have nx := nx.1 hs
        have hpos : 0 < t.sz := by have := some_iff t; rw [hs] at this; exact of_decide_eq_true this.symm
        simp
        refine (minN_ok t _).use ?_
        simp [hs]
        refine (popN_ok t (by omega) _).use ?_
        simp [hs]
        refine (sizeN_ok _ _).use ?_
        simp [hpos, wide2]
        refine ⟨⟨hwt k, w1 _, by omega, by omega⟩, k + 1, t.pop.1, ⟨nx.2.2, by omega⟩, by omega, ⟨?_, wr _ (by omega) (by omega)⟩, rfl⟩
        rw [← List.map_take, ← List.map_take, nx.2.1]; simp [eC]
      · have hs' : t.some? = false := by simpa using hs
        have nx := nx.2 hs'
        have hpos : ¬ 0 < t.sz := by have := some_iff t; rw [hs'] at this; exact of_decide_eq_false this.symm
        simp
        refine (minN_ok t _).use ?_
        simp [hs']
        refine (popN_ok t (by omega) _).use ?_
        simp [hs']
        refine (sizeN_ok _ _).use ?_
        simp [hpos]
        refine ⟨k + 1, t, ⟨nx.2.1, by omega⟩, by omega, ⟨?_, wr _ (by omega) (by omega)⟩, by rw [nx.2.2]⟩
        have := congrArg List.length nx.1
        simp only [List.length_take] at this
        omega
    · simp [hwn, hm, hlt]
      have hout' : ∃ out : List El, out = (sortL a).take k := ⟨_, rfl⟩
      obtain ⟨out, hout⟩ := hout'
      have hrest' : ∃ rest : List El, rest = (sortL a).drop k := ⟨_, rfl⟩
      obtain ⟨rest, hrest⟩ := hrest'
      have hi : Is t rest := by rw [hrest]; exact hi
      have hall : (out ++ rest).Perm a := by rw [hout, hrest, List.take_append_drop]; exact hSp
      have hlen : out.length + rest.length = a.length := by have := hall.length_eq; simpa using this
      have htk : (sortL a).take out.length = out := by
        rw [hout, List.length_take, ← List.take_take, List.take_length]
      have hwo : Wide 2 (out.map eC) := wide2 out
      refine pcut_at [(0, .pv (.list (a.map eC))), (2, .pv (.int .u8 b')), (8, .loc 8 0), (9, .pv (.list (out.map eC)))] [(8, [t.pt])] gl' gn (by simp [hout]) ?_
      simp
      refine pwp_loopS (α := Nat × LT × LT) (fun s => s.1 ≤ out.length ∧ Is s.2.1 (rotK out b' s.1) ∧ Is s.2.2 (out.drop (out.length - s.1) ++ rest))
        (fun s => [(0, .pv (.list (a.map eC))), (2, .pv (.int .u8 b')), (8, .loc 8 0), (9, .pv (.list (out.map eC))), (15, .loc 15 0), (16, .loc 16 0), (17, .pv (.int .i64 s.1))]) (fun s => [(8, [t.pt]), (15, [s.2.1.pt]), (16, [s.2.2.pt])]) (fun _ => gl') (fun _ => gn) (fun s => out.length - s.1) (0, .nil, t) ⟨Nat.zero_le _, by simpa [rotK] using Is.nil, by simpa using hi⟩ (by simp [LT.pt]) ?_
      rintro ⟨q, o, u⟩ ⟨hq, ho, hu⟩
      simp only at hq ho hu
      have hos := ho.sz
      have hus := hu.sz
      have hrl : (rotK out b' q).length = q := by simp [rotK]
      simp only [List.length_append, List.length_drop] at hus
      by_cases hql : q < out.length
      · simp [hql]
        have hj' : ∃ j, (q + b') % out.length = j := ⟨_, rfl⟩
        obtain ⟨j, hj⟩ := hj'
        have hjl : j < out.length := by rw [← hj]; exact Nat.mod_lt _ (by omega)
        have hix : (IntKind.i64.wrap ((q : Int) + b')).tmod (out.length : Int) = (j : Int) := by
          rw [wr _ (by omega) (by omega), show ((q : Int) + b') = ((q + b' : Nat) : Int) from by omega, ← Int.ofNat_tmod, hj]
        have hne : out ≠ [] := by intro e; rw [e] at hql; simp at hql
        have ho' := (ho.ins out[j].1 out[j].2).to (rotK_next out b' q j hj hjl)
        have hi2' : ∃ i2, i2 = out.length - 1 - q := ⟨_, rfl⟩
        obtain ⟨i2, hi2⟩ := hi2'
        have hi2l : i2 < out.length := by omega
        have hix2 : IntKind.i64.wrap (IntKind.i64.wrap ((out.length : Int) - 1) - q) = (i2 : Int) := by
          rw [wr ((out.length : Int) - 1) (by omega) (by omega), wr _ (by omega) (by omega)]; omega
        have hu' : Is (u.ins out[i2].1 out[i2].2).1 (out.drop (out.length - (q + 1)) ++ rest) := by
          rw [back_next out q hql]
          subst hi2
          exact hu.ins _ _
        refine pcut_at [(0, .pv (.list (a.map eC))), (2, .pv (.int .u8 b')), (8, .loc 8 0), (9, .pv (.list (out.map eC))), (15, .loc 15 0), (16, .loc 16 0), (17, .pv (.int .i64 q))] [(8, [t.pt]), (15, [o.pt]), (16, [u.pt])] gl' gn (by simp) ?_
        simp [hwb, hix, hne, hjl, hwo, eC]
        refine (insN_ok o _ _ (by omega) _).use ?_
        simp
        refine pcut_at [(0, .pv (.list (a.map eC))), (2, .pv (.int .u8 b')), (8, .loc 8 0), (9, .pv (.list (out.map eC))), (15, .loc 15 0), (16, .loc 16 0), (17, .pv (.int .i64 q))] [(8, [t.pt]), (15, [(o.ins out[j].1 out[j].2).1.pt]), (16, [u.pt])] gl' gn (by simp) ?_
        simp [hix2, hi2l, hwo, eC]
        refine (insN_ok u _ _ (by omega) _).use ?_
        simp
        refine ⟨q + 1, (o.ins out[j].1 out[j].2).1, (u.ins out[i2].1 out[i2].2).1, ⟨hql, ho', hu'⟩, by omega, wr _ (by omega) (by omega), rfl, rfl⟩
      · simp [hql]
        have hqe : q = out.length := by omega
        have hrot : (rotK out b' q).Perm out := by rw [hqe]; exact rot_perm out b'
        have ho' : Is o out := ho.to hrot
        have hu' : Is u (out ++ rest) := by rw [hqe, Nat.sub_self, List.drop_zero] at hu; exact hu
        have hsame : sortL (out ++ rest) = sortL a := sort_perm hall
        have CS := fun gl => sameN_ok ((sortL a).take out.length) out htk (by simp; omega) gl
        simp only [List.map_take] at CS
        refine pcut_at [(0, .pv (.list (a.map eC))), (8, .loc 8 0), (9, .pv (.list (out.map eC))), (15, .loc 15 0), (16, .loc 16 0)] [(8, [t.pt]), (15, [o.pt]), (16, [u.pt])] gl' gn (by simp) ?_
        simp
        refine (sort_ok a (by omega) _).use ?_
        simp
        refine pcut_at [(8, .loc 8 0), (9, .pv (.list (out.map eC))), (15, .loc 15 0), (16, .loc 16 0), (18, .pv (.list ((sortL a).map eC)))] [(8, [t.pt]), (15, [o.pt]), (16, [u.pt])] gl' gn (by simp) ?_
        have hoz := ho'.sz
        have huz := hu'.sz
        have htz := hi.sz
        simp only [List.length_append] at huz
        simp [wide2]
        refine ⟨by omega, ?_⟩
        refine (CS _).use ?_
        simp
        refine (meldN_ok o t (by omega) _).use ?_
        simp
        refine (drI_ok (ho'.meld hi) a hall 200 (by omega) (by omega) (by simp; omega) _).use ?_
        simp
        refine (sameN_ok _ _ rfl (by omega) _).use ?_
        simp
        refine (drI_ok hu' a hall 200 (by omega) (by omega) (by simp; omega) _).use ?_
        simp
        refine (sameN_ok _ _ rfl (by omega) _).use ?_
        simp

end Go.Proofs.YtgbcjpdhmjikgaaDoor
