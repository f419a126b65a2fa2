/- Bodies; a contract out of a pure walk. -/
import Derived.Test.YtbekdlgkoleblaaDoorEngP
namespace Go.Proofs.YtbekdlgkoleblaaDoor

section
variable {P : Program} {F : Fr}

/-- The loop's rule, with a ghost. -/
theorem wp_loop_ghost {G : Type} {c : Code} {Q : Exit → Act → World → Prop} {a : Act} {w : World} (I : G → Act → World → Prop) (μ : G → Nat) (s : G) (h₀ : I s a w)
    (round : ∀ s a w, I s a w → c.wp P (Exit.then (fun a' w' => ∃ s', I s' a' w' ∧ μ s' < μ s) Q) a w) : (Code.loop c).wp P Q a w := by
  intro b k cs
  have key : ∀ n s a w, μ s = n → I s a w → ∃ e a' w', Q e a' w' ∧ Arrives P (lone (b.at a (.code c :: .inLoop c :: k)) cs w) b k cs e a' w' := by
    intro n
    induction n using Nat.strongRecOn with
    | _ n ih =>
      intro s a w hn hI
      obtain ⟨e, a₁, w₁, hq, harr⟩ := round s a w hI b (.inLoop c :: k) cs
      cases e with
      | normal =>
        obtain ⟨s₁, hI₁, hlt⟩ := hq
        obtain ⟨e₂, a₂, w₂, hq₂, harr₂⟩ := ih (μ s₁) (hn ▸ hlt) s₁ a₁ w₁ rfl hI₁
        exact ⟨e₂, a₂, w₂, hq₂, .of_steps (Steps.trans harr (.one step_inLoop)) harr₂⟩
      | exit id => exact ⟨_, a₁, w₁, hq, .pass (x := .inLoop c) rfl (fun _ _ => .inl (by simp)) harr⟩
      | goto l => exact ⟨_, a₁, w₁, hq, .pass (x := .inLoop c) rfl (fun _ _ => .inl (by simp)) harr⟩
      | ret => exact ⟨_, a₁, w₁, hq, .pass (x := .inLoop c) rfl (fun _ _ => .inl (by simp)) harr⟩
      | panic ch => exact ⟨_, a₁, w₁, hq, .pass (x := .inLoop c) rfl (fun _ _ => .inl (by simp)) harr⟩
      | outgrown => exact ⟨_, a₁, w₁, hq, .pass (x := .inLoop c) rfl (fun _ _ => .inl (by simp)) harr⟩
  obtain ⟨e, a', w', hq, harr⟩ := key _ s a w rfl h₀
  exact ⟨e, a', w', hq, .of_steps (.one step_loop) harr⟩

theorem look_mem {α : Type} : ∀ {l : List (Nat × α)} {t : Nat} {v : α}, look l t = some v → (t, v) ∈ l
  | (k, x) :: rest, t, v, h => by
    simp only [look] at h
    split at h
    · rename_i e; injection h with h; subst h; subst e; exact List.mem_cons_self
    · exact List.mem_cons_of_mem _ (look_mem h)

theorem allFit_mem {s : PS} {m : List (Nat × List PV)} : ∀ {l : List (Nat × SV)}, allFit s m l → ∀ {t : Nat} {v : SV}, (t, v) ∈ l → fits1 s t v ∧ plainSV v = true ∧ locsIn m v
  | (k, x) :: rest, h, t, v, hm => by
    rcases List.mem_cons.1 hm with e | hm
    · injection e with e1 e2; subst e1; subst e2; exact ⟨h.1, h.2.1, h.2.2.1⟩
    · exact allFit_mem h.2.2.2 hm
theorem locFit_look {s : PS} : ∀ {m : List (Nat × List PV)}, locFit s m → ∀ {d : Nat} {c : List PV}, look m d = some c → s.loc d = some c
  | (k, x) :: rest, h, d, c, hl => by
    simp only [look] at hl
    split at hl
    · rename_i e; injection hl with hl; subst hl; subst e; exact h.1
    · exact locFit_look h.2 hl
theorem tokens_mem : ∀ {l : List (Nat × SV)} {t k : Nat} {xs : List (List PV)}, (t, SV.own k xs) ∈ l → k ∈ tokens l
  | (t0, x) :: rest, t, k, xs, hm => by
    rcases List.mem_cons.1 hm with e | hm
    · injection e with e1 e2; subst e2; simp [tokens]
    · have := tokens_mem hm
      cases x <;> simp [tokens, this]
theorem tokens_one : ∀ {l : List (Nat × SV)}, (tokens l).Nodup → ∀ {t t' k : Nat} {xs xs' : List (List PV)}, (t, SV.own k xs) ∈ l → (t', SV.own k xs') ∈ l → t = t' ∧ xs = xs'
  | (t0, x) :: rest, hn, t, t', k, xs, xs', h1, h2 => by
    rcases List.mem_cons.1 h1 with e1 | g1 <;> rcases List.mem_cons.1 h2 with e2 | g2
    · rw [← e1] at e2; injection e2 with a b; injection b with b c; exact ⟨a.symm, c.symm⟩
    · injection e1 with _ b; subst b; simp only [tokens, List.nodup_cons] at hn; exact absurd (tokens_mem g2) hn.1
    · injection e2 with _ b; subst b; simp only [tokens, List.nodup_cons] at hn; exact absurd (tokens_mem g1) hn.1
    · refine tokens_one (l := rest) ?_ g1 g2
      cases x <;> simp only [tokens, List.nodup_cons] at hn <;> first | exact hn | exact hn.2

/-- Of what is forgotten nothing is said. -/
theorem Inv.le {g : Gh} {s s0 : PS} {a : Act} {w : World} (h : Inv F g s a w) (hle : LeS s0 s) : ∃ g', Inv F g' s0 a w := by
  obtain ⟨l, m, rfl, hfit, hnd, hloc⟩ := hle.out
  -- the tokens that are kept, and those that are new
  have hex : ∀ k, ∃ x : Option (Option Nat), (∀ t xs, (t, SV.own k xs) ∈ l → (s.env t = some (.own k xs) → x = g.ow k) ∧ (s.env t = some (.full xs) → x = some none)) ∧ (x = g.ow k ∨ x = some none) := by
    intro k
    by_cases hk : ∃ t xs, (t, SV.own k xs) ∈ l ∧ s.env t = some (.full xs)
    · obtain ⟨t, xs, h1, h2⟩ := hk
      refine ⟨some none, fun t' xs' h' => ⟨fun he => ?_, fun _ => rfl⟩, .inr rfl⟩
      obtain ⟨rfl, rfl⟩ := tokens_one hnd h1 h'
      rw [h2] at he; injection he with he; cases he
    · exact ⟨g.ow k, fun t xs h1 => ⟨fun _ => rfl, fun h2 => absurd ⟨t, xs, h1, h2⟩ hk⟩, .inl rfl⟩
  obtain ⟨ow', how⟩ := Classical.axiomOfChoice hex
  refine ⟨{ g with lc := fun d => if (look m d).isSome then g.lc d else none, ow := ow' }, { h with locs := fun d b hd => ?_, lcinj := fun d d' b h1 h2 => ?_, ows := fun k b hk => ?_, owinj := fun k k' b h1 h2 => ?_, env := fun t v hv => ?_, mts := h.mts }⟩
  · simp only at hd
    split at hd
    · rename_i hs
      obtain ⟨h1, h2, h3, cells, c, t, e1, r⟩ := h.locs d b hd
      obtain ⟨c', hc'⟩ := Option.isSome_iff_exists.1 hs
      have := locFit_look hloc hc'
      rw [e1] at this; injection this with this; subst this
      exact ⟨h1, h2, h3, cells, c, t, hc', r⟩
    · cases hd
  · simp only at h1 h2
    split at h1 <;> split at h2 <;> first | exact h.lcinj d d' b h1 h2 | cases h1 | cases h2
  · replace hk : ow' k = some (some b) := hk
    rcases (how k).2 with e | e
    · exact h.ows k b (by rw [← e]; exact hk)
    · rw [e] at hk; cases hk
  · replace h1 : ow' k = some (some b) := h1
    replace h2 : ow' k' = some (some b) := h2
    rcases (how k).2 with e | e
    · rcases (how k').2 with e' | e'
      · exact h.owinj k k' b (by rw [← e]; exact h1) (by rw [← e']; exact h2)
      · rw [e'] at h2; cases h2
    · rw [e] at h1; cases h1
  · have hm := look_mem (show look l t = some v from hv)
    obtain ⟨hf, hpl, hlc⟩ := allFit_mem hfit hm
    rcases hf with hf | hf
    · have hr := h.env t v hf
      generalize a.tmps.getD t undef = val at hr ⊢
      cases hr with
      | undef => exact .undef
      | pv hp => exact .pv hp
      | loc d off b hb =>
        refine .loc d off b ?_
        show (if (look m d).isSome then g.lc d else none) = some b
        rw [if_pos (show (look m d).isSome = true from hlc)]; exact hb
      | mtr k off b hb => exact .mtr k off b hb
      | lrow d n b cap hb =>
        refine .lrow d n b cap ?_
        show (if (look m d).isSome then g.lc d else none) = some b
        rw [if_pos (show (look m d).isSome = true from hlc)]; exact hb
      | full hp => exact .full hp
      | ownNone h1 hp => exact .ownNone ((((how _).1 t _ hm).1 hf).trans h1) hp
      | own h1 hp hat => exact .own ((((how _).1 t _ hm).1 hf).trans h1) hp hat
      | tup us vs hs h4 => simp [plainSV] at hpl
    · cases v <;> first | exact hf.elim | skip
      · rename_i p
        cases p <;> first | exact hf.elim | skip
        rcases hf with ⟨k, hf⟩ | hf
        · exact .pv ((h.env t _ hf).pv? rfl)
        · exact .pv ((h.env t _ hf).pv? rfl)
      · rename_i k xs
        have hr := h.env t _ hf
        generalize a.tmps.getD t undef = val at hr ⊢
        cases hr with
        | full hp => exact .ownNone (((how k).1 t _ hm).2 hf) hp

/-- What a pure post says of the world. -/
def QW (F : Fr) (Q : PX → PS → Prop) : Exit → Act → World → Prop
  | .normal, a, w => Sees F (Q .norm) a w
  | .exit id, a, w => Sees F (Q (.exit id)) a w
  | .ret, a, w => Sees F (Q .ret) a w
  | _, _, _ => False

theorem pwp_ok {imm : TypeId → Bool} (hm : P.follows .mixedOrders = true) : ∀ (c : Code) (_ : drawAll imm c = true) {Q : PX → PS → Prop} {g : Gh} {s : PS} {a : Act} {w : World}, Inv F g s a w → pwp P imm F.nt c Q s → c.wp P (QW F Q) a w
  | .skip, _, Q, g, s, a, w, h, hp => wp_skip ⟨s, g, h, hp⟩
  | .region id ops draw, hd, Q, g, s, a, w, h, hp => by
    have main : ∀ (g : Gh) (s : PS), Inv F g s a w → pops P imm F.nt ops ops.toList s (Q .norm) → (Code.region id ops draw).wp P (QW F Q) a w := by
      intro g1 s1 h1 hp1
      clear hp
      cases draw with
      | false => exact wp_region_list (pops_ok ops.toList h1 hp1 fun _ _ hs => hs)
      | true => exact region_ok h1 (by simpa [drawAll] using hd) hm hp1 fun _ _ hs => hs
    simp only [pwp] at hp
    split at hp
    · obtain ⟨rfl, hp⟩ := hp
      exact wp_region_list (padopt_ok ops.toList h hp fun _ _ hs => hs)
    split at hp
    · obtain ⟨s0, hle, hp⟩ := hp
      obtain ⟨g0, h0⟩ := h.le hle
      exact main _ _ h0 hp
    · exact main _ _ h hp
  | .seq x y, hd, Q, g, s, a, w, h, hp => by
    simp only [drawAll, Bool.and_eq_true] at hd
    refine wp_seq (wp_mono (pwp_ok hm x hd.1 h hp) fun e a' w' hq => ?_)
    cases e with
    | normal =>
      obtain ⟨s', g', hi, hk⟩ := hq
      exact pwp_ok hm y hd.2 hi hk
    | exit id => exact hq
    | ret => exact hq
    | _ => exact hq.elim
  | .cond c x y, hd, Q, g, s, a, w, h, hp => by
    simp only [drawAll, Bool.and_eq_true] at hd
    simp only [pwp] at hp
    split at hp
    · rename_i b hb
      refine wp_cond (t := b) (rep_bool (srel_pv (ev_ok h (boolIn_eq hb)))) ?_
      cases b with
      | true => exact pwp_ok hm x hd.1 h (by simpa using hp)
      | false => exact pwp_ok hm y hd.2 h (by simpa using hp)
    · exact hp.elim
  | .block id c, hd, Q, g, s, a, w, h, hp => by
    refine wp_block (wp_mono (pwp_ok hm c (by simpa [drawAll] using hd) h hp) fun e a' w' hq => ?_)
    cases e with
    | normal => exact hq
    | exit i =>
      obtain ⟨s', g', hi, hk⟩ := hq
      simp only [Exit.inBlock]
      by_cases hid : i = id
      · simp only [hid, if_true] at hk ⊢; exact ⟨s', g', hi, hk⟩
      · simp only [hid, if_false] at hk ⊢; exact ⟨s', g', hi, hk⟩
    | ret => exact hq
    | _ => exact hq.elim
  | .loop c, hd, Q, g, s, a, w, h, hp => by
    obtain ⟨I, μ, ⟨s0, hle, h0⟩, hr⟩ := hp
    obtain ⟨g0, hi0⟩ := h.le hle
    refine wp_loop_ghost (fun (s : PS) a w => ∃ g, Inv F g s a w ∧ I s) μ s0 ⟨g0, hi0, h0⟩ fun s a w ⟨g, hi, hI⟩ => wp_mono (pwp_ok hm c (by simpa [drawAll] using hd) hi (hr s hI)) fun e a' w' hq => ?_
    cases e with
    | normal =>
      obtain ⟨s', g', hi', s1, hle', hk, hlt⟩ := hq
      obtain ⟨g1, hi1⟩ := hi'.le hle'
      exact ⟨s1, ⟨g1, hi1, hk⟩, hlt⟩
    | exit id => exact hq
    | ret => exact hq
    | _ => exact hq.elim
  | .exit id, _, Q, g, s, a, w, h, hp => wp_exit ⟨s, g, h, hp⟩
  | .ret, _, Q, g, s, a, w, h, hp => wp_ret ⟨s, g, h, hp⟩
  | .rangeFunc .., _, _, _, _, _, _, _, hp => hp.elim
  | .scope _, _, _, _, _, _, _, _, hp => hp.elim
  | .label _, _, _, _, _, _, _, _, hp => hp.elim
  | .goto _, _, _, _, _, _, _, _, hp => hp.elim
  | .refuse _, _, _, _, _, _, _, _, hp => hp.elim

/-- All local boxes, never to be written again. -/
noncomputable def froze (g : Gh) (w : World) : Nat → Nat := fun b => by
  classical exact if ∃ d, g.lc d = some b then (match w.heap[b]? with | some (.cells c _ _) => c.size | _ => 0) else g.im b

section
variable {g : Gh} {s : PS} {a : Act} {w : World}

theorem froze_other {b : Nat} (h : ∀ d, g.lc d ≠ some b) : froze g w b = g.im b := by
  unfold froze; rw [if_neg (fun ⟨d, hd⟩ => h d hd)]
theorem froze_loc {b d : Nat} {c : Array Value} {t : TypeId} {fr : Nat × Nat} (h : g.lc d = some b) (hb : w.heap[b]? = some (.cells c t fr)) : froze g w b = c.size := by
  unfold froze; rw [if_pos ⟨d, h⟩, hb]
theorem froze_pos (h : Inv F g s a w) {b : Nat} (hb : 0 < g.im b) : froze g w b = g.im b := froze_other fun d hd => by have := (h.locs d b hd).2.1; omega
theorem froze_keeps (h : Inv F g s a w) : Keeps g.im w (froze g w) w := by
  refine ⟨fun b => ?_, fun _ _ _ => rfl⟩
  rcases Nat.eq_zero_or_pos (g.im b) with h0 | h0
  · rw [h0]; exact Nat.zero_le _
  · rw [froze_pos h h0]; exact Nat.le_refl _

/-- A result variable's value. -/
def resVar (tmps : Array Value) : ResultVar → Sem Value
  | .tmp t => Pure.pure (tmps.getD t undef)
  | .cell c t => do loadVar t (← asAddr (tmps.getD c undef))

theorem pres1_ok (h : Inv F g s a w) {x : ResultVar} {r : RV} (hp : pres1 P s x = some r) :
    ∃ v, (resVar a.tmps x).run P w = .ok v w ∧ RRel (froze g w) F.mt w F.w0.heap.size v r := by
  have hk := froze_keeps h
  cases x with
  | tmp t =>
    simp only [pres1] at hp
    split at hp
    · rename_i d he
      obtain ⟨cells, hl, rfl⟩ := Option.map_eq_some_iff.1 hp
      have hv := h.env t _ he
      generalize hz : a.tmps.getD t undef = z at hv
      cases hv with
      | loc d off b hb =>
        obtain ⟨h1, h2, h3, cells', c, tt, e1, e2, e3, es, e4⟩ := h.locs d b hb
        rw [hl] at e1; injection e1 with e1; subst e1
        refine ⟨.pointer (some ⟨b, 0, none⟩), by simp only [resVar, hz, Sem.run_pure], .pv (.ref b 0 0 cells (fun i => c.getD i undef) es (Nat.le_refl _) (fun i hi => by rw [froze_loc hb e2]; omega) (fun i hi => ?_) fun i hi => ?_)⟩
        · rw [cell_of_heap e2]
          have : i < c.size := by omega
          simp [this]
        · have hi' : i < c.size := by omega
          have := (e4 i hi hi').keeps hk
          simpa [hi'] using this
    · rename_i v _ he
      have hv := h.env t _ he
      refine ⟨a.tmps.getD t undef, by simp only [resVar, Sem.run_pure], ?_⟩
      generalize a.tmps.getD t undef = z at hv
      cases hv <;> simp only [SV.res, Option.some.injEq, reduceCtorEq] at hp <;> subst hp
      · exact .pv (Rep.keeps (by assumption) hk)
      · exact .freshFull (Rep.keeps (by assumption) hk)
      · exact .freshFull (Rep.keeps (by assumption) hk)
      · rename_i k b xs h1 h2 h3 _
        obtain ⟨cap, c, t, es, e1, e2, e3, e4, e5⟩ := h3
        exact .fresh (h.ows k b h1).1 (h2.keeps hk) ⟨cap, c, t, es, e1, e2, e3, (froze_pos h (h.ows k b h1).2).trans e4, e5⟩
    · cases hp
  | cell c t =>
    simp only [pres1] at hp
    split at hp
    · rename_i size ag d off ht he
      split at hp
      · rename_i cells hl
        obtain ⟨p, hpt, rfl⟩ := Option.map_eq_some_iff.1 hp
        have hv := h.env c _ he
        generalize hz : a.tmps.getD c undef = z at hv
        cases hv with
        | loc d off b hb =>
          obtain ⟨h1, h2, h3, cells', cc, tt, e1, e2, e3, es, e4⟩ := h.locs d b hb
          rw [hl] at e1; injection e1 with e1; subst e1
          obtain ⟨v, hr, hrep⟩ := load_part (I := g.im) (w := w) (ad := ⟨b, off, none⟩) ht hpt rfl es (fun i hi => by
            have hi' : off + i < cc.size := by omega
            refine ⟨cc[off + i], ?_, e4 _ hi hi'⟩
            show w.cell? ⟨b, off + i, none⟩ = _
            rw [cell_of_heap e2]; simp [hi'])
          exact ⟨v, by simp only [resVar, hz, asAddr, Sem.run_bind, Sem.run_pure, Result.andThen_ok, hr], .pv (hrep.keeps hk)⟩
      · cases hp
    · cases hp

theorem presAll_ok (h : Inv F g s a w) : ∀ (l : List ResultVar) {rs : List RV}, presAll P s l = some rs →
    ∃ vs : List Value, (l.mapM (resVar a.tmps)).run P w = .ok vs w ∧ vs.length = rs.length ∧
      ∀ i (h : i < rs.length) (h' : i < vs.length), RRel (froze g w) F.mt w F.w0.heap.size vs[i] rs[i]
  | [], rs, hp => by simp only [presAll, Option.some.injEq] at hp; subst hp; exact ⟨[], by simp, rfl, fun i h => absurd h (by simp)⟩
  | x :: rest, rs, hp => by
    simp only [presAll] at hp
    split at hp
    · rename_i r l h1 h2
      injection hp with hp; subst hp
      obtain ⟨v, hv, hr⟩ := pres1_ok h h1
      obtain ⟨vs, hvs, hl, hrs⟩ := presAll_ok h rest h2
      refine ⟨v :: vs, by simp only [List.mapM_cons, Sem.run_bind, hv, Result.andThen_ok, hvs, Sem.run_pure], by simp [hl], fun i hi hi' => ?_⟩
      cases i with
      | zero => exact hr
      | succ i => exact hrs i (by simpa using hi) (by simpa using hi')
    · cases hp

theorem pres_ok (h : Inv F g s a w) {fn : Func} {r : RV} (hp : pres P s fn.results = some r) : ∃ v, (results fn a.tmps).run P w = .ok v w ∧ RRel (froze g w) F.mt w F.w0.heap.size v r := by
  unfold pres at hp
  have hrun : ∀ {vs : List Value}, (fn.results.toList.mapM (resVar a.tmps)).run P w = .ok vs w →
      (results fn a.tmps).run P w = .ok (if h : vs.toArray.size = 1 then vs.toArray[0] else .tuple vs.toArray) w := by
    intro vs hv
    show (do let vs ← fn.results.mapM (resVar a.tmps); pure (if h : vs.size = 1 then vs[0] else .tuple vs) : Sem Value).run P w = _
    rw [Array.mapM_eq_mapM_toList]
    simp only [Sem.run_bind, Sem.run_map, hv, Result.andThen_ok, Sem.run_pure]
  split at hp
  · rename_i r' he
    injection hp with hp; subst hp
    obtain ⟨vs, hv, hl, hr⟩ := presAll_ok h _ he
    obtain ⟨v, rfl⟩ : ∃ v, vs = [v] := by
      cases vs with
      | nil => simp at hl
      | cons v vs => cases vs with
        | nil => exact ⟨v, rfl⟩
        | cons _ _ => simp at hl
    exact ⟨v, by rw [hrun hv]; simp, hr 0 (by simp) (by simp)⟩
  · rename_i l hne he
    injection hp with hp; subst hp
    obtain ⟨vs, hv, hl, hr⟩ := presAll_ok h _ he
    refine ⟨.tuple vs.toArray, by
      rw [hrun hv, dif_neg]
      intro h1
      have h2 : l.length = 1 := by simp at h1; omega
      obtain ⟨x, rfl⟩ := List.length_eq_one_iff.1 h2
      exact hne x rfl, .tup _ _ (by simpa using hl) fun i hi hi' => by simpa using hr i hi (by simpa using hi')⟩
  · cases hp

end

/-- THE CONTRACT OF A FUNCTION, by a pure walk of its body. -/
theorem pcalls_of_pwp {f : FuncId} {fn : Func} {c : Code} (imm : TypeId → Bool) {args : List SV} {gl : Nat → Int × Int} {Q : RV → (Nat → Int × Int) → Prop} (hf : P.funcs[f]? = some fn) (hb : fn.body = some c) (hn : args.length ≤ fn.ntmps) (hm : P.follows .mixedOrders = true) (hd : drawAll imm c = true)
    (h : ∀ gn, pwp P imm fn.ntmps c (fun e s => (match e with | .exit _ => False | _ => True) ∧ ∃ r, pres P s fn.results = some r ∧ Q r s.gl) (PS.start args gl gn)) : PCalls P f args gl Q := by
  intro im mt w vs hg hsz ha
  refine calls_of_wp hf hb ?_
  obtain ⟨gn, hgn⟩ := hg.bnd
  have hinv : Inv { w0 := w, im0 := im, mt := mt, gn0 := gn, nt := fn.ntmps } ⟨im, mt, fun _ => none, fun _ => none⟩ (PS.start args gl gn) { tmps := vs ++ Array.replicate (fn.ntmps - vs.size) undef, defers := [] } w := by
    refine
      { nt := by simp; omega, df := rfl, os := rfl, tape := rfl, output := rfl, base := Nat.le_refl _, imz := hg.imz, im0 := fun _ _ => rfl, blk := fun _ _ _ => rfl, mts := hg.mts, mtinj := hg.inj, mtold := fun _ _ h => h,
        mtnew := fun _ _ h => .inl h, mtlt := hgn, tab := hg.tab, locs := fun _ _ h => (by cases h), lcinj := fun _ _ _ h => (by cases h), ows := fun _ _ h => (by cases h), owinj := fun _ _ _ h => (by cases h), env := fun t v hv => ?_ }
    obtain ⟨hlt, rfl⟩ := List.getElem?_eq_some_iff.1 (show args[t]? = some v from hv)
    have hlt' : t < vs.size := by omega
    have := ha t hlt hlt'
    have e : (vs ++ Array.replicate (fn.ntmps - vs.size) undef).getD t undef = vs[t] := by
      have : t < (vs ++ Array.replicate (fn.ntmps - vs.size) undef).size := by simp; omega
      simp only [Array.getD_eq_getD_getElem?, Array.getElem?_eq_getElem this, Option.getD_some]
      rw [Array.getElem_append_left hlt']
    rw [e]; exact this
  refine wp_mono (pwp_ok hm c hd hinv (h gn)) fun e a' w' hq => ?_
  have fin : ∀ s' g', Inv { w0 := w, im0 := im, mt := mt, gn0 := gn, nt := fn.ntmps } g' s' a' w' → (∃ r, pres P s' fn.results = some r ∧ Q r s'.gl) →
      a'.defers = [] ∧ ∃ v, (results fn a'.tmps).run P w' = .ok v w' ∧ ∃ v2 r gl' im', Ending.returned v = .returned v2 ∧ Q r gl' ∧ RRel im' mt w' w.heap.size v2 r ∧ Ext im mt w im' w' ∧ Glob im' mt gl' w' := by
    intro s' g' hi ⟨r, hr, hq⟩
    obtain ⟨v, hv, hrr⟩ := pres_ok hi hr
    refine ⟨hi.df, v, hv, v, r, s'.gl, froze g' w', rfl, hq, hrr, ⟨hi.os, hi.tape, hi.output, hi.base, fun b hb => ?_, hi.blk⟩, ⟨fun b hb => ?_, fun k b hk => ?_, fun k k' b hk hk' => hi.mtinj k k' b (hi.mtold k b hk) (hi.mtold k' b hk'), ⟨gn, hgn⟩, hi.tab.keep hi.blk⟩⟩
    · rw [froze_other (fun d hd => by have := (hi.locs d b hd).1; simp only at this; omega)]; exact hi.im0 b hb
    · rw [froze_other (fun d hd => by obtain ⟨_, _, _, _, _, _, _, e2, _⟩ := hi.locs d b hd; have := heap_lt e2; omega)]; exact hi.imz b hb
    · have h1 := hi.mts k b (hi.mtold k b hk)
      exact ⟨h1.1, by rw [froze_other (fun d hd => (hi.locs d b hd).2.2.1 k (hi.mtold k b hk))]; exact h1.2⟩
  cases e with
  | normal => obtain ⟨s', g', hi, _, hk⟩ := hq; exact fin s' g' hi hk
  | ret => obtain ⟨s', g', hi, _, hk⟩ := hq; exact fin s' g' hi hk
  | exit id => obtain ⟨s', g', hi, hk, _⟩ := hq; exact hk.elim
  | _ => exact hq.elim

end
end Go.Proofs.YtbekdlgkoleblaaDoor
