/- A tree as a text; the document's answer. -/
import Derived.Test.YtbekdlgkoleblaaDoorK10
import Derived.Test.YtbekdlgkoleblaaDoorZ1
namespace Go.Proofs.YtbekdlgkoleblaaDoor
set_option linter.unusedSimpArgs false
set_option linter.unusedVariables false

def okE (y : El) : Prop := inI y.1 ∧ inI y.2
/-- A tree's things are numbers of 64 bits. -/
def RT.ok (t : RT) : Prop := ∀ y ∈ t.all, okE y
def besT : List El → List UInt8
  | [] => []
  | y :: l => 32 :: 43 :: (txt y.1 y.2 ++ besT l)
mutual
/-- A tree as a text. -/
def RT.text : RT → List UInt8
  | .node _ x b kids => 40 :: (txt x.1 x.2 ++ (besT b ++ (RT.textL kids ++ [41])))
def RT.textL : List RT → List UInt8
  | [] => []
  | k :: l => 32 :: (k.text ++ RT.textL l)
end
theorem text_eq (t : RT) : t.text = 40 :: (txt t.x.1 t.x.2 ++ (besT t.beside ++ (RT.textL t.kids ++ [41]))) := by
  cases t; rw [RT.text]; rfl
theorem besT_take : ∀ (l : List El) (k : Nat) (h : k < l.length), besT (l.take (k + 1)) = besT (l.take k) ++ 32 :: 43 :: txt l[k].1 l[k].2
  | y :: l, 0, _ => by simp [besT]
  | y :: l, k + 1, h => by
    have := besT_take l k (by simpa using h)
    simp only [List.take_succ_cons, besT, List.getElem_cons_succ, this, List.cons_append, List.append_assoc]
theorem textL_take : ∀ (l : List RT) (k : Nat) (h : k < l.length), RT.textL (l.take (k + 1)) = RT.textL (l.take k) ++ 32 :: l[k].text
  | y :: l, 0, _ => by simp [RT.textL]
  | y :: l, k + 1, h => by
    have := textL_take l k (by simpa using h)
    simp only [List.take_succ_cons, RT.textL, List.getElem_cons_succ, this, List.cons_append, List.append_assoc]
theorem besT_len : ∀ (l : List El), (∀ y ∈ l, okE y) → (besT l).length ≤ 45 * l.length
  | [], _ => by simp [besT]
  | y :: l, h => by
    have h1 := txt_len y.1 y.2 (h y (by simp)).1 (h y (by simp)).2
    have h2 := besT_len l fun z hz => h z (by simp [hz])
    simp only [besT, List.length_cons, List.length_append]; omega
theorem ok_root {t : RT} (h : t.ok) : okE t.x := h _ (by rw [all_node]; simp)
theorem ok_beside {t : RT} (h : t.ok) : ∀ y ∈ t.beside, okE y := fun y hy => h _ (by rw [all_node]; simp [hy])
theorem mem_allL : ∀ {l : List RT} {k : RT}, k ∈ l → ∀ {y : El}, y ∈ k.all → y ∈ RT.allL l
  | _ :: l, k, h, y, hy => by
    simp only [RT.allL, List.mem_append]
    rcases List.mem_cons.1 h with rfl | h
    · exact .inl hy
    · exact .inr (mem_allL h hy)
theorem ok_kid {t : RT} (h : t.ok) : ∀ k ∈ t.kids, k.ok := fun k hk y hy => h _ (by rw [all_node]; simp [mem_allL hk hy])
mutual
theorem text_len : ∀ (t : RT), t.ok → t.text.length + 1 ≤ 46 * t.sz
  | .node r x b kids, h => by
    have h1 := txt_len x.1 x.2 (ok_root h).1 (ok_root h).2
    have h2 := besT_len b (ok_beside h)
    have h3 := textL_len kids (ok_kid h)
    simp only [RT.text, RT.sz, List.length_cons, List.length_append, List.length_nil]; omega
theorem textL_len : ∀ (l : List RT), (∀ k ∈ l, k.ok) → (RT.textL l).length ≤ 46 * RT.szL l
  | [], _ => by simp [RT.textL]
  | k :: l, h => by
    have h1 := text_len k (h k (by simp))
    have h2 := textL_len l fun z hz => h z (by simp [hz])
    simp only [RT.textL, RT.szL, List.length_cons, List.length_append]; omega
end

set_option maxHeartbeats 8000000 in
set_option maxRecDepth 4000 in
theorem refShowN_ok : ∀ (n : Nat) (t : RT) (gl : Nat → Int × Int), t.ok → t.sz ≤ n → n ≤ 1000000 → PCalls Tryd.prog 27 [.pv (.agg t.rc)] gl fun r gl' => r = .pv (.str t.text) ∧ gl' = gl
  | 0, t, gl, _, h, _ => by have := sz_eq t; omega
  | n + 1, t, gl, hok, h, hn => by
    have hz := sz_eq t
    have e0 : ((t.sz : Int) == 0) = false := beq_false_of_ne (by omega)
    have n1 : t.sz ≠ 0 := by omega
    have hkl := szL_len t.kids
    have hr := ok_root hok
    have ht1 := txt_len t.x.1 t.x.2 hr.1 hr.2
    refine pcalls_of_pwp noImm Tryd.func27 rfl (by simp) mixed (by kernel_rfl) fun gn => ?_
    simp [rc_eq t, e0, n1, rcL_map]
    refine (refText_ok _ _ hr.1 hr.2 _).use ?_
    simp
    refine ⟨by omega, ?_⟩
    refine pwp_loopS (α := Nat) (fun k => k ≤ t.beside.length) (fun k => [(1, .loc 1 0), (3, .pv (.str (40 :: (txt t.x.1 t.x.2 ++ besT (t.beside.take k))))), (4, .pv (.int .i64 k))]) (fun _ => [(1, [.int .i64 t.rank, .int .i64 t.x.1, .int .i64 t.x.2, .list (t.beside.map eC), .list (t.kids.map RT.rc), .int .i64 (t.sz : Int)])]) (fun _ => gl) (fun _ => gn) (fun k => t.beside.length - k) 0 (by simp) (by simp [besT]) ?_
    rintro k hk
    have hbl := besT_len (t.beside.take k) fun y hy => ok_beside hok y (List.mem_of_mem_take hy)
    have hbk : (t.beside.take k).length ≤ t.beside.length := by simp; omega
    by_cases hlt : k < t.beside.length
    · have hyo := ok_beside hok t.beside[k] (List.getElem_mem hlt)
      have ht2 := txt_len t.beside[k].1 t.beside[k].2 hyo.1 hyo.2
      simp [hlt, wide2, eC]
      refine (refText_ok _ _ hyo.1 hyo.2 _).use ?_
      simp
      refine ⟨by omega, by omega, k + 1, by omega, by omega, ?_, wr _ (by omega) (by omega)⟩
      rw [besT_take _ _ hlt]
    · rw [List.take_of_length_le (by omega)] at hbl ⊢
      simp [hlt]
      refine pwp_loopS (α := Nat) (fun k => k ≤ t.kids.length) (fun k => [(1, .loc 1 0), (3, .pv (.str (40 :: (txt t.x.1 t.x.2 ++ (besT t.beside ++ RT.textL (t.kids.take k)))))), (5, .pv (.int .i64 k))]) (fun _ => [(1, [.int .i64 t.rank, .int .i64 t.x.1, .int .i64 t.x.2, .list (t.beside.map eC), .list (t.kids.map RT.rc), .int .i64 (t.sz : Int)])]) (fun _ => gl) (fun _ => gn) (fun k => t.kids.length - k) 0 (by simp) (by simp [RT.textL]) ?_
      rintro k hk
      have hle := szL_le t.kids k
      have htl := textL_len (t.kids.take k) fun y hy => ok_kid hok y (List.mem_of_mem_take hy)
      by_cases hlt : k < t.kids.length
      · have hks := sz_kid t.kids k hlt
        have hko := ok_kid hok t.kids[k] (List.getElem_mem hlt)
        have htk := text_len t.kids[k] hko
        have hrc := rc_len t.kids[k]
        have htk6 : List.take 6 t.kids[k].rc = t.kids[k].rc := List.take_of_length_le (by omega)
        simp [hlt, wideR, hrc, htk6]
        refine (refShowN_ok n t.kids[k] _ hko (by omega) (by omega)).use ?_
        simp
        refine ⟨by omega, by omega, k + 1, by omega, by omega, ?_, wr _ (by omega) (by omega)⟩
        rw [textL_take _ _ hlt]
      · rw [List.take_of_length_le (by omega)] at htl ⊢
        simp [hlt, text_eq]
        omega
def oText : Option RT → List UInt8
  | none => [46]
  | some t => t.text
theorem refShow_ok (t : Option RT) (h : ∀ u, t = some u → u.sz ≤ 1000000 ∧ u.ok) (gl : Nat → Int × Int) : PCalls Tryd.prog 27 [.pv (.agg (oC t))] gl fun r gl' => r = .pv (.str (oText t)) ∧ gl' = gl := by
  cases t with
  | none =>
    refine pcalls_of_pwp noImm Tryd.func27 rfl (by simp) mixed (by kernel_rfl) fun gn => ?_
    simp [oC, oText]
  | some u => exact refShowN_ok 1000000 u gl (h u rfl).2 (h u rfl).1 (Nat.le_refl _)
end Go.Proofs.YtbekdlgkoleblaaDoor
