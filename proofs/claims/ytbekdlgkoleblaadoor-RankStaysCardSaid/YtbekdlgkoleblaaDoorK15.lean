/- A tree as a text: the program's walk. -/
import Derived.Test.YtbekdlgkoleblaaDoorK14
namespace Go.Proofs.YtbekdlgkoleblaaDoor
open Go.RowKit
set_option linter.unusedSimpArgs false
set_option linter.unusedVariables false

theorem ShI.cell {im mt gl w l W} (h : ShI im mt gl w l W) {b o : Nat} (hb : 0 < im b) : W.cell? ⟨b, o, none⟩ = w.cell? ⟨b, o, none⟩ := by
  refine World.cell?_of_block (w := w) (h.blk b ?_ fun k hk => ?_)
  · rcases Nat.lt_or_ge b w.heap.size with hb' | hb'
    · exact hb'
    · rw [h.old.imz b hb'] at hb; omega
  · rw [(h.old.mts k b hk).2] at hb; omega

/-- A tree's cells. -/
theorem node_at {I : Nat → Nat} {w : World} {b o : Nat} {t : RT} (hr : Rep I w (.pointer (some ⟨b, o, none⟩)) t.pt) :
    0 < I b ∧ w.cell? ⟨b, o + 1, none⟩ = some (.int .i64 t.x.1) ∧ w.cell? ⟨b, o + 2, none⟩ = some (.int .i64 t.x.2) ∧
    (∃ ad cap, w.cell? ⟨b, o + 3, none⟩ = some (.slice ad t.beside.length cap) ∧ Rep I w (.slice ad t.beside.length cap) (.list (t.beside.map eC))) ∧
    (∃ ad cap, w.cell? ⟨b, o + 4, none⟩ = some (.slice ad t.kids.length cap) ∧ Rep I w (.slice ad t.kids.length cap) (.list (t.kids.map fun k => [k.pt]))) := by
  rw [pt_eq, ptL_map] at hr
  have hpos : 0 < I b := by
    generalize hq : [PV.int IntKind.i64 t.rank, .int .i64 t.x.1, .int .i64 t.x.2, .list (t.beside.map eC), .list (t.kids.map fun k => [k.pt]), .int .i64 (t.sz : Int)] = cells at hr
    cases hr with
    | ref b o off cells vs hs h1 h2 h3 h4 => have := h2 0 (by rw [← hq]; simp); omega
  obtain ⟨v1, c1, r1⟩ := hr.cellsIn 1 (by simp)
  obtain ⟨v2, c2, r2⟩ := hr.cellsIn 2 (by simp)
  obtain ⟨v3, c3, r3⟩ := hr.cellsIn 3 (by simp)
  obtain ⟨v4, c4, r4⟩ := hr.cellsIn 4 (by simp)
  simp only [Nat.zero_add, List.getElem_cons_succ, List.getElem_cons_zero] at r1 r2 r3 r4
  obtain rfl := rep_int r1
  obtain rfl := rep_int r2
  obtain ⟨a3, p3, rfl, _⟩ := rep_list r3
  obtain ⟨a4, p4, rfl, _⟩ := rep_list r4
  rw [List.length_map] at c3 r3 c4 r4
  exact ⟨hpos, c1, c2, ⟨a3, p3, c3, r3⟩, ⟨a4, p4, c4, r4⟩⟩

theorem els_at {I : Nat → Nat} {w : World} {ad : Option Addr} {n cap : Nat} {xs : List El} (h : Rep I w (.slice ad n cap) (.list (xs.map eC))) (k : Nat) (hk : k < xs.length) :
    ∃ b o, ad = some ⟨b, o, none⟩ ∧ 0 < I b ∧ w.cell? ⟨b, o + k * 2, none⟩ = some (.int .i64 xs[k].1) ∧ w.cell? ⟨b, o + k * 2 + 1, none⟩ = some (.int .i64 xs[k].2) := by
  generalize hq : xs.map eC = ys at h
  cases h with
  | empty => rw [List.map_eq_nil_iff] at hq; subst hq; simp at hk
  | nil => rw [List.map_eq_nil_iff] at hq; subst hq; simp at hk
  | list b o cap es ys vs hs h0 h2 hcap h3 h4 =>
    subst hq
    have hes : es = 2 := (h0 (eC xs[k]) (List.mem_map.2 ⟨xs[k], List.getElem_mem hk, rfl⟩)).symm
    subst hes
    have hk' : k < (xs.map eC).length := by simpa using hk
    have e0 := rep_int (by simpa [eC] using h4 k hk' 0 (by simp [eC]))
    have e1 := rep_int (by simpa [eC] using h4 k hk' 1 (by simp [eC]))
    have c0 := h3 k 0 hk' (by decide)
    have c1 := h3 k 1 hk' (by decide)
    rw [e0] at c0; rw [e1] at c1
    have := h2 0 (by omega)
    exact ⟨b, o, rfl, by omega, by simpa using c0, by simpa [Nat.add_assoc] using c1⟩

theorem kids_at {I : Nat → Nat} {w : World} {ad : Option Addr} {n cap : Nat} {xs : List RT} (h : Rep I w (.slice ad n cap) (.list (xs.map fun k => [k.pt]))) (k : Nat) (hk : k < xs.length) :
    ∃ b o b' o', ad = some ⟨b, o, none⟩ ∧ 0 < I b ∧ w.cell? ⟨b, o + k, none⟩ = some (.pointer (some ⟨b', o', none⟩)) ∧ Rep I w (.pointer (some ⟨b', o', none⟩)) xs[k].pt := by
  generalize hq : xs.map (fun k => [k.pt]) = ys at h
  cases h with
  | empty => rw [List.map_eq_nil_iff] at hq; subst hq; simp at hk
  | nil => rw [List.map_eq_nil_iff] at hq; subst hq; simp at hk
  | list b o cap es ys vs hs h0 h2 hcap h3 h4 =>
    subst hq
    have hes : es = 1 := (h0 [xs[k].pt] (List.mem_map.2 ⟨xs[k], List.getElem_mem hk, rfl⟩)).symm
    subst hes
    have hk' : k < (xs.map fun k => [k.pt]).length := by simpa using hk
    have r0 : Rep I w (vs k 0) xs[k].pt := by simpa using h4 k hk' 0 (by simp)
    have c0 := h3 k 0 hk' (by decide)
    obtain ⟨b', o', e⟩ := rep_ref (by rw [pt_eq] at r0; exact r0)
    rw [e] at c0 r0
    have := h2 0 (by omega)
    exact ⟨b, o, b', o', rfl, by omega, by simpa using c0, r0⟩

/-- A method looked up by name. -/
theorem method_ok {P : Program} {t : TypeId} {name : String} {f : FuncId} (h : methP P t name = some f) (n : Nat) (v : Value) (w : World) : (method (n + 1) t v name).run P w = .ok (f, v) w := by
  unfold methP at h
  split at h
  · cases h
  · rename_i d m hn hd hm
    cases hi : P.info? t with
    | none => rw [hi] at hm; cases hm
    | some i =>
      rw [hi] at hm
      simp only [Option.bind_some] at hm
      split at h
      · rename_i f' hp hf
        injection h with h; subst h
        have hd' : P.underlying t = some d := hd
        have hne : ∀ e, d ≠ .pointer e := fun e he => hn e (by rw [he])
        cases d <;> first
          | (exfalso; exact hne _ rfl)
          | simp [method, typeInfo, hi, hm, hp, hf, follow, receiverAt, run_underlying hd', Place.get]
      · cases h
  · cases h

/-- Memory that grows behind. -/
theorem ShI.below {im mt gl w l W W'} (h : ShI im mt gl w l W) (hb : Below W.heap.size W W') : ShI im mt gl w l W' :=
  ⟨⟨fun b hb' => h.glob.imz b (Nat.le_trans hb.size hb'), fun k b hk => by
    obtain ⟨⟨t, ht⟩, hi⟩ := h.glob.mts k b hk
    exact ⟨⟨t, (hb.block b (heap_lt ht)).trans ht⟩, hi⟩, h.old.inj, h.old.bnd, h.glob.tab.keep fun b hb' _ => hb.block b hb'⟩, h.old, hb.os.trans h.os, hb.tape.trans h.tape, hb.output.trans h.output, Nat.lt_of_lt_of_le h.size hb.size,
    fun b hb' hk => (hb.block b (Nat.lt_trans hb' h.size)).trans (h.blk b hb' hk), builder_kept h.bld fun c hc _ => hb.block c hc⟩

theorem agg_rel {im mt} {W : World} (p i : Int) : ∀ j (h : j < [SV.pv (.agg [.int .i64 p, .int .i64 i])].length) (h' : j < (#[Value.agg #[.int .i64 p, .int .i64 i]] : Array Value).size), SRel ⟨im, mt, fun _ => none, fun _ => none⟩ W (#[Value.agg #[.int .i64 p, .int .i64 i]])[j] [SV.pv (.agg [.int .i64 p, .int .i64 i])][j] := by
  intro j h h'
  obtain rfl : j = 0 := by simp at h; omega
  refine .pv (.agg _ _ (by simp [PV.scalar]) rfl fun k hk hk' => ?_)
  match k, hk with
  | 0, _ => exact .int _ _
  | 1, _ => exact .int _ _

theorem ShI.key {im mt gl w l W} (h : ShI im mt gl w l W) (p i : Int) : Calls Tryd.prog 90 #[.agg #[.int .i64 p, .int .i64 i]] W fun e W' => e = .returned (.agg #[.int .i64 p, .int .i64 i]) ∧ ShI im mt gl w l W' := by
  refine (h.call (key_ok p i gl) rfl (agg_rel p i)).mono ?_
  rintro e W' ⟨v, im', rfl, hr, hI⟩
  cases hr with
  | pv hp => obtain rfl := pair_inv hp; exact ⟨rfl, hI⟩

theorem ShI.text {im mt gl w l W} (h : ShI im mt gl w l W) (y : El) (hy : okE y) : Calls Tryd.prog 44 #[.agg #[.int .i64 y.1, .int .i64 y.2]] W fun e W' => ∃ s : ByteArray, e = .returned (.string s) ∧ s.data.toList = txt y.1 y.2 ∧ ShI im mt gl w l W' := by
  refine (h.call (text_ok y.1 y.2 hy.1 hy.2 gl) rfl (agg_rel _ _)).mono ?_
  rintro e W' ⟨v, im', rfl, hr, hI⟩
  cases hr with
  | pv hp => obtain ⟨s, rfl, hs⟩ := rep_str hp; exact ⟨s, rfl, hs, hI⟩

theorem ShI.kid {im mt gl w l W} (h : ShI im mt gl w l W) {k : RT} (hk : PCalls Tryd.prog 26 [.pv k.pt] gl fun r gl' => r = .pv (.str k.text) ∧ gl' = gl) {v : Value} (hr : Rep im w v k.pt) :
    Calls Tryd.prog 26 #[v] W fun e W' => ∃ s : ByteArray, e = .returned (.string s) ∧ s.data.toList = k.text ∧ ShI im mt gl w l W' := by
  refine (h.call hk rfl fun j hj hj' => ?_).mono ?_
  · obtain rfl : j = 0 := by simp at hj; omega
    exact .pv (hr.keeps h.keeps)
  · rintro e W' ⟨v, im', rfl, hr, hI⟩
    cases hr with
    | pv hp => obtain ⟨s, rfl, hs⟩ := rep_str hp; exact ⟨s, rfl, hs, hI⟩

set_option maxHeartbeats 4000000 in
set_option maxRecDepth 100000 in
theorem show_raw (n : Nat) (ih : ∀ (t : RT) (gl : Nat → Int × Int), t.ok → t.sz ≤ n → PCalls Tryd.prog 26 [.pv t.pt] gl fun r gl' => r = .pv (.str t.text) ∧ gl' = gl) (t : RT) (hok : t.ok) (hsz : t.sz ≤ n + 1) (hn : n + 1 ≤ 1000000)
    (gl : Nat → Int × Int) (im : Nat → Nat) (mt : Nat → Option Nat) (w : World) (b0 o0 : Nat) (hg : Glob im mt gl w) (hr : Rep im w (.pointer (some ⟨b0, o0, none⟩)) t.pt) :
    Calls Tryd.prog 26 #[.pointer (some ⟨b0, o0, none⟩)] w fun e w' => ∃ s : ByteArray, e = .returned (.string s) ∧ s.data.toList = t.text ∧ Ext im mt w im w' ∧ Glob im mt gl w' := by
  obtain ⟨hp0, c1, c2, ⟨ab, capb, c3, rb⟩, ⟨ak, capk, c4, rk⟩⟩ := node_at hr
  have hkey := method_ok methP29_Key 237
  have I0 := ShI.start hg
  have d1 := (I0.cell hp0).trans c1
  have d2 := (I0.cell hp0).trans c2
  go_enter Tryd.func26, Tryd.ntmps26
  go_wp2_with (go_at_call 90; refine (I0.key _ _).mono ?_)
  rintro e W1 ⟨rfl, I1⟩
  go_wp2_with (go_at_call 44; refine (I1.text t.x (ok_root hok)).mono ?_)
  rintro e W2 ⟨s1, rfl, hs1, I2⟩
  have hz1 : s1.size ≤ 43 := by have := txt_len t.x.1 t.x.2 (ok_root hok).1 (ok_root hok).2; rw [← hs1] at this; simpa using this
  go_wp2_with (go_at_call 43; refine (I2.write _ ?hb1).mono ?_)
  case hb1 => have z : ((⟨#[40]⟩ : ByteArray)).size = 1 := rfl; simp [z]; omega
  rintro e W3 ⟨x3, rfl, I3⟩
  have e3 : [] ++ ((⟨#[40]⟩ : ByteArray) ++ s1).data.toList = 40 :: txt t.x.1 t.x.2 := by simp [hs1]
  rw [e3] at I3
  have d3 := (I3.cell hp0).trans c3
  go_wp2
  refine wp_loop_ghost (G := Nat) (fun k a W => k ≤ t.beside.length ∧ ShI im mt gl w (40 :: (txt t.x.1 t.x.2 ++ besT (t.beside.take k))) W ∧ ∃ v1 v2 v4 v5 v6 v7 v8 v9 v10 v11 v12 v13 v14 v15 v16 v17 v18 v19 v20 v21 v25 v26 v27 v28 v29 v30 v31 v32 v33 v34 v35 v36 v37 v38 v39 v40 v41 v42 v43 v44 v45 v46 v47 v48 v49 v50, a = { tmps := #[.pointer (some ⟨b0, o0, none⟩), v1, v2, .pointer (some ⟨w.heap.size, 0, none⟩), v4, v5, v6, v7, v8, v9, v10, v11, v12, v13, v14, v15, v16, v17, v18, v19, v20, v21, .slice ab t.beside.length capb, .int .i64 t.beside.length, .int .i64 k, v25, v26, v27, v28, v29, v30, v31, v32, v33, v34, v35, v36, v37, v38, v39, v40, v41, v42, v43, v44, v45, v46, v47, v48, v49, v50], defers := [] }) (fun k => t.beside.length - k) 0 ?_ ?_
  · exact ⟨Nat.zero_le _, by simpa [besT] using I3, _, _, _, _, _, _, _, _, _, _, _, _, _, _, _, _, _, _, _, _, _, _, _, _, _, _, _, _, _, _, _, _, _, _, _, _, _, _, _, _, _, _, _, _, _, _, rfl⟩
  · rintro k a W ⟨hk, I4, v1, v2, v4, v5, v6, v7, v8, v9, v10, v11, v12, v13, v14, v15, v16, v17, v18, v19, v20, v21, v25, v26, v27, v28, v29, v30, v31, v32, v33, v34, v35, v36, v37, v38, v39, v40, v41, v42, v43, v44, v45, v46, v47, v48, v49, v50, rfl⟩
    by_cases hlt : k < t.beside.length
    · have hlt' : (k : Int) < t.beside.length := by omega
      obtain ⟨bb, ob, rfl, hbp, g0, g1⟩ := els_at rb k hlt
      have q0 := (I4.cell hbp).trans g0
      have q1 := (I4.cell hbp).trans g1
      have hyo := ok_beside hok t.beside[k] (List.getElem_mem hlt)
      have I4b := fun v1 v2 => I4.below (W' := W.alloc (.cells #[.int .i64 v1, .int .i64 v2] 29)) ((Below.refl _ _).alloc (Nat.le_refl _) _)
      go_wp2_with (go_at_call 90; refine ((I4b _ _).key _ _).mono ?_)
      rintro e W5 ⟨rfl, I5⟩
      go_wp2_with (go_at_call 44; refine (I5.text t.beside[k] hyo).mono ?_)
      rintro e W6 ⟨s2, rfl, hs2, I6⟩
      have hz2 : s2.size ≤ 43 := by have := txt_len t.beside[k].1 t.beside[k].2 hyo.1 hyo.2; rw [← hs2] at this; simpa using this
      have hlb := besT_len (t.beside.take k) fun y hy => ok_beside hok y (List.mem_of_mem_take hy)
      have hlt1 := txt_len t.x.1 t.x.2 (ok_root hok).1 (ok_root hok).2
      have hsz1 := sz_eq t
      go_wp2_with (go_at_call 43; refine (I6.write _ ?hb2).mono ?_)
      case hb2 => have z : ((⟨#[32, 43]⟩ : ByteArray)).size = 2 := rfl; simp [z]; simp at hlb; omega
      rintro e W7 ⟨x7, rfl, I7⟩
      have e7 : (40 :: (txt t.x.1 t.x.2 ++ besT (t.beside.take k))) ++ ((⟨#[32, 43]⟩ : ByteArray) ++ s2).data.toList = 40 :: (txt t.x.1 t.x.2 ++ besT (t.beside.take (k + 1))) := by
        rw [besT_take _ _ hlt]; simp [hs2]
      rw [e7] at I7
      go_wp2
      refine ⟨k + 1, ⟨by omega, I7, _, _, _, _, _, _, _, _, _, _, _, _, _, _, _, _, _, _, _, _, _, _, _, _, _, _, _, _, _, _, _, _, _, _, _, _, _, _, _, _, _, _, _, _, _, _, rfl⟩, by omega⟩
    · have hlt' : ¬ (k : Int) < t.beside.length := by omega
      rw [List.take_of_length_le (by omega)] at I4
      have d4 := (I4.cell hp0).trans c4
      go_wp2
      refine wp_loop_ghost (G := Nat) (fun k a W => k ≤ t.kids.length ∧ ShI im mt gl w (40 :: (txt t.x.1 t.x.2 ++ (besT t.beside ++ RT.textL (t.kids.take k)))) W ∧ ∃ v1 v2 v4 v5 v6 v7 v8 v9 v10 v11 v12 v13 v14 v15 v16 v17 v18 v19 v20 v21 v22 v23 v24 v25 v26 v27 v28 v29 v30 v31 v32 v33 v34 v35 v36 v37 v41 v42 v43 v44 v45 v46 v47 v48 v49 v50, a = { tmps := #[.pointer (some ⟨b0, o0, none⟩), v1, v2, .pointer (some ⟨w.heap.size, 0, none⟩), v4, v5, v6, v7, v8, v9, v10, v11, v12, v13, v14, v15, v16, v17, v18, v19, v20, v21, v22, v23, v24, v25, v26, v27, v28, v29, v30, v31, v32, v33, v34, v35, v36, v37, .slice ak t.kids.length capk, .int .i64 t.kids.length, .int .i64 k, v41, v42, v43, v44, v45, v46, v47, v48, v49, v50], defers := [] }) (fun k => t.kids.length - k) 0 ?_ ?_
      · exact ⟨Nat.zero_le _, by simpa [RT.textL] using I4, _, _, _, _, _, _, _, _, _, _, _, _, _, _, _, _, _, _, _, _, _, _, _, _, _, _, _, _, _, _, _, _, _, _, _, _, _, _, _, _, _, _, _, _, _, _, rfl⟩
      · rintro k a W ⟨hk, I5, v1, v2, v4, v5, v6, v7, v8, v9, v10, v11, v12, v13, v14, v15, v16, v17, v18, v19, v20, v21, v22, v23, v24, v25, v26, v27, v28, v29, v30, v31, v32, v33, v34, v35, v36, v37, v41, v42, v43, v44, v45, v46, v47, v48, v49, v50, rfl⟩
        by_cases hlt : k < t.kids.length
        · have hlt' : (k : Int) < t.kids.length := by omega
          obtain ⟨bb, ob, b', o', rfl, hbp, g0, rk'⟩ := kids_at rk k hlt
          have q0 := (I5.cell hbp).trans g0
          have hks := sz_kid t.kids k hlt
          have hkl := szL_len t.kids
          have hsz1 := sz_eq t
          have hko := ok_kid hok t.kids[k] (List.getElem_mem hlt)
          have hsh := I5.kid (ih t.kids[k] gl hko (by omega)) rk'
          go_wp2_with (go_at_call 26; refine hsh.mono ?_)
          rintro e W6 ⟨s2, rfl, hs2, I6⟩
          have hz2 : s2.size + 1 ≤ 46 * t.kids[k].sz := by have := text_len t.kids[k] hko; rw [← hs2] at this; simpa using this
          have hlb := besT_len t.beside fun y hy => ok_beside hok y hy
          have hlk := textL_len (t.kids.take k) fun y hy => ok_kid hok y (List.mem_of_mem_take hy)
          have hle := szL_le t.kids k
          have hlt1 := txt_len t.x.1 t.x.2 (ok_root hok).1 (ok_root hok).2
          go_wp2_with (go_at_call 43; refine (I6.write _ ?hb3).mono ?_)
          case hb3 => have z : ((⟨#[32]⟩ : ByteArray)).size = 1 := rfl; simp [z]; omega
          rintro e W7 ⟨x7, rfl, I7⟩
          have e7 : (40 :: (txt t.x.1 t.x.2 ++ (besT t.beside ++ RT.textL (t.kids.take k)))) ++ ((⟨#[32]⟩ : ByteArray) ++ s2).data.toList = 40 :: (txt t.x.1 t.x.2 ++ (besT t.beside ++ RT.textL (t.kids.take (k + 1)))) := by
            rw [textL_take _ _ hlt]; simp [hs2]
          rw [e7] at I7
          go_wp2
          refine ⟨k + 1, ⟨by omega, I7, _, _, _, _, _, _, _, _, _, _, _, _, _, _, _, _, _, _, _, _, _, _, _, _, _, _, _, _, _, _, _, _, _, _, _, _, _, _, _, _, _, _, _, _, _, _, rfl⟩, by omega⟩
        · have hlt' : ¬ (k : Int) < t.kids.length := by omega
          rw [List.take_of_length_le (by omega)] at I5
          have hlb := besT_len t.beside fun y hy => ok_beside hok y hy
          have hlk := textL_len t.kids fun y hy => ok_kid hok y hy
          have hlt1 := txt_len t.x.1 t.x.2 (ok_root hok).1 (ok_root hok).2
          have hsz1 := sz_eq t
          go_wp2_with (go_at_call 43; refine (I5.write _ ?hb4).mono ?_)
          case hb4 => have z : ((⟨#[41]⟩ : ByteArray)).size = 1 := rfl; simp [z]; omega
          rintro e W7 x7 rfl I7
          rw [← text_eq] at I7
          go_wp2_with (go_at_call 45; refine I7.tell.mono ?_)
          rintro e W8 ⟨rfl, hx, hg8⟩
          go_wp2
          go_ret
          exact ⟨_, rfl, by simp, hx, hg8⟩

theorem rShowN_ok : ∀ (n : Nat) (t : RT) (gl : Nat → Int × Int), t.ok → t.sz ≤ n → n ≤ 1000000 → PCalls Tryd.prog 26 [.pv t.pt] gl fun r gl' => r = .pv (.str t.text) ∧ gl' = gl
  | 0, t, gl, _, h, _ => by have := sz_eq t; omega
  | n + 1, t, gl, hok, h, hn => by
    intro im mt w vs hg hsz ha
    have h0 := ha 0 (by simp) (by simp at hsz; omega)
    have hvs := args_one (vs := vs) (by simpa using hsz)
    generalize vs[0]'(by simp at hsz; omega) = v at h0 hvs
    subst hvs
    cases h0 with
    | pv hr =>
      obtain ⟨b0, o0, rfl⟩ := rep_ref (by rw [pt_eq] at hr; exact hr)
      refine (show_raw n (fun t gl hok h => rShowN_ok n t gl hok h (by omega)) t hok h hn gl im mt w b0 o0 hg hr).mono ?_
      rintro e w' ⟨s, rfl, hs, hx, hg'⟩
      exact ⟨_, .pv (.str t.text), gl, im, rfl, ⟨rfl, rfl⟩, .pv (.str s _ hs), hx, hg'⟩
theorem rShow_ok (t : Option RT) (h : ∀ u, t = some u → u.sz ≤ 1000000 ∧ u.ok) (gl : Nat → Int × Int) : PCalls Tryd.prog 26 [.pv (oP t)] gl fun r gl' => r = .pv (.str (oText t)) ∧ gl' = gl := by
  cases t with
  | none =>
    refine pcalls_of_pwp noImm Tryd.func26 rfl (by simp) mixed (by kernel_rfl) fun gn => ?_
    simp [oP, oText]
  | some u => exact rShowN_ok 1000000 u gl (h u rfl).2 (h u rfl).1 (Nat.le_refl _)
end Go.Proofs.YtbekdlgkoleblaaDoor
