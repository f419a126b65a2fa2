/- The meters' own contracts, out of what the library's atomic numbers do; the walk's rules as simp rules. -/
import Derived.Test.YtbekdlgkoleblaaDoorEngM
namespace Go.Proofs.YtbekdlgkoleblaaDoor

theorem upd_apply {α : Type} (f : Nat → α) (k : Nat) (x : α) (t : Nat) : upd f k x t = if t = k then x else f t := rfl

@[simp] theorem upd_upd {α : Type} (f : Nat → α) (k : Nat) (x y : α) : upd (upd f k x) k y = upd f k y := by funext t; simp only [upd]; split <;> rfl

/-- A call's post is not looked into. -/
@[congr] theorem PCalls_congr {P : Program} {f : FuncId} {args args' : List SV} {gl gl' : Nat → Int × Int} {Q : RV → (Nat → Int × Int) → Prop} (h : args = args') (h' : gl = gl') : PCalls P f args gl Q = PCalls P f args' gl' Q := by rw [h, h']

@[congr] theorem pwp_congr {P : Program} {imm : TypeId → Bool} {nt : Nat} {c : Code} {Q : PX → PS → Prop} {s s' : PS} (h : s = s') : pwp P imm nt c Q s = pwp P imm nt c Q s' := by rw [h]
@[congr] theorem pops_congr {P : Program} {imm : TypeId → Bool} {nt : Nat} {ops : Array Oper} {l : List Oper} {K : PS → Prop} {s s' : PS} (h : s = s') : pops P imm nt ops l s K = pops P imm nt ops l s' K := by rw [h]
@[congr] theorem pone_congr {P : Program} {imm : TypeId → Bool} {nt : Nat} {ops : Array Oper} {o : Oper} {K : PS → Prop} {s s' : PS} (h : s = s') : pone P imm nt ops o s K = pone P imm nt ops o s' K := by rw [h]
@[congr] theorem pop1_congr {P : Program} {imm : TypeId → Bool} {nt : Nat} {o : Oper} {K : PS → Prop} {s s' : PS} (h : s = s') : pop1 P imm nt s o K = pop1 P imm nt s' o K := by rw [h]

/-- A call that answers one thing. -/
theorem PCalls.use {P : Program} {f : FuncId} {args : List SV} {gl : Nat → Int × Int} {r0 : RV} {gl0 : Nat → Int × Int} {Q : RV → (Nat → Int × Int) → Prop} (h : PCalls P f args gl fun r gl' => r = r0 ∧ gl' = gl0) (hq : Q r0 gl0) : PCalls P f args gl Q :=
  h.mono fun _ _ ⟨e1, e2⟩ => by subst e1; subst e2; exact hq

theorem srel_mtr {g : Gh} {w : World} {v : Value} {k off : Nat} (h : SRel g w v (.mtr k off)) : ∃ b, g.mt k = some b ∧ v = .pointer (some ⟨b, off, none⟩) := by
  cases h with | mtr k off b h => exact ⟨b, h, rfl⟩
theorem srel_int {g : Gh} {w : World} {v : Value} {k : IntKind} {n : Int} (h : SRel g w v (.pv (.int k n))) : v = .int k n := by
  cases h with | pv h => cases h; rfl

theorem args_one {vs : Array Value} (h : vs.size = 1) : vs = #[vs[0]'(by omega)] := by
  apply Array.ext
  · simpa using h
  · intro i h1 h2
    have : i = 0 := by omega
    subst this; rfl
theorem args_two' {vs : Array Value} (h : vs.size = 2) : vs = #[vs[0]'(by omega), vs[1]'(by omega)] := by
  apply Array.ext
  · simpa using h
  · intro i h1 h2
    match i, (show i < 2 by omega) with
    | 0, _ => rfl
    | 1, _ => rfl

theorem heap_setCell {w : World} {b o : Nat} {c : Array Value} {t : TypeId} {fr : Nat × Nat} (h : w.heap[b]? = some (.cells c t fr)) (v : Value) : (w.setCell ⟨b, o, none⟩ v).heap[b]? = some (.cells (c.setIfInBounds o v) t fr) := by
  simp [World.setCell, Array.getElem?_modify, h]
theorem heap_setCell_ne {w : World} {b o b' : Nat} (h : b' ≠ b) (v : Value) : (w.setCell ⟨b, o, none⟩ v).heap[b']? = w.heap[b']? := by
  simp [World.setCell, Array.getElem?_modify, Ne.symm h]

theorem wrap_def (n : Int) : IntKind.i64.wrap n = if n % 18446744073709551616 ≥ 9223372036854775808 then n % 18446744073709551616 - 18446744073709551616 else n % 18446744073709551616 := by
  simp [IntKind.wrap, IntKind.bits, IntKind.signed]
theorem wr (n : Int) (h1 : -9223372036854775808 ≤ n) (h2 : n ≤ 9223372036854775807) : IntKind.i64.wrap n = n := by
  rw [wrap_def]; split <;> omega
theorem wr_range (n : Int) : -9223372036854775808 ≤ IntKind.i64.wrap n ∧ IntKind.i64.wrap n ≤ 9223372036854775807 := by
  rw [wrap_def]; split <;> omega
theorem wr_wr_add (n m : Int) : IntKind.i64.wrap (IntKind.i64.wrap n + m) = IntKind.i64.wrap (n + m) := by
  rw [wrap_def n, wrap_def, wrap_def]; split <;> split <;> split <;> omega

section
variable {P : Program} {f : FuncId}

theorem meter_add (raw : ∀ (b off : Nat) (c n : Int) (w : World), w.cell? ⟨b, off, none⟩ = some (.int .i64 c) → w.frozen? ⟨b, off, none⟩ = false →
      Calls P f #[.pointer (some ⟨b, off, none⟩), .int .i64 n] w fun e w' => e = .returned (.int .i64 (IntKind.i64.wrap (c + n))) ∧ w' = w.setCell ⟨b, off, none⟩ (.int .i64 (IntKind.i64.wrap (c + n)))) (k : Nat) (n : Int) (gl : Nat → Int × Int) :
    PCalls P f [.mtr k 0, .pv (.int .i64 n)] gl (fun r gl' => r = .pv (.int .i64 (IntKind.i64.wrap ((gl k).1 + n))) ∧ gl' = upd gl k ((gl k).1 + n, (gl k).2)) ∧
    PCalls P f [.mtr k 1, .pv (.int .i64 n)] gl (fun r gl' => r = .pv (.int .i64 (IntKind.i64.wrap ((gl k).2 + n))) ∧ gl' = upd gl k ((gl k).1, (gl k).2 + n)) := by
  have main : ∀ (off : Nat) (c : Int) (new : Int × Int), (∀ (t : TypeId) (w : World) (b : Nat), w.heap[b]? = some (.cells #[.int .i64 (IntKind.i64.wrap (gl k).1), .int .i64 (IntKind.i64.wrap (gl k).2)] t (0, 0)) → w.cell? ⟨b, off, none⟩ = some (.int .i64 (IntKind.i64.wrap c))) →
      (∀ v, v = IntKind.i64.wrap (c + n) → (#[Value.int .i64 (IntKind.i64.wrap (gl k).1), .int .i64 (IntKind.i64.wrap (gl k).2)] : Array Value).setIfInBounds off (.int .i64 v) = #[.int .i64 (IntKind.i64.wrap new.1), .int .i64 (IntKind.i64.wrap new.2)]) →
      PCalls P f [.mtr k off, .pv (.int .i64 n)] gl (fun r gl' => r = .pv (.int .i64 (IntKind.i64.wrap (c + n))) ∧ gl' = upd gl k new) := by
    intro off c new hcell hset im mt w vs hg hsz ha
    obtain ⟨b, hb, h0⟩ := srel_mtr (ha 0 (by simp) (by simp at hsz; omega))
    have h1 := srel_int (ha 1 (by simp) (by simp at hsz; omega))
    have hvs := args_two' (vs := vs) (by simpa using hsz)

    rw [hvs, h0, h1]
    replace hb : mt k = some b := hb
    obtain ⟨⟨t, ht⟩, him⟩ := hg.mts k b hb
    have hraw := raw b off _ n w (hcell t w b ht) (by simp [World.frozen?, ht])
    rw [wr_wr_add] at hraw
    refine hraw.mono fun e w' ⟨he, hw⟩ => ?_
    subst hw
    refine ⟨_, .pv (.int .i64 (IntKind.i64.wrap (c + n))), upd gl k new, im, he, ⟨rfl, rfl⟩, .pv (.int _ _), ⟨rfl, rfl, rfl, by simp, fun _ _ => rfl, fun b' _ hm => heap_setCell_ne (fun e => hm k (by rw [e]; exact hb)) _⟩, ⟨fun b' hb' => hg.imz b' (by simpa using hb'), fun k' b' hk' => ?_, hg.inj, hg.bnd, hg.tab.keep fun b' _ hm => heap_setCell_ne (fun e => hm k (by rw [e]; exact hb)) _⟩⟩
    by_cases e : k' = k
    · subst e
      rw [hb] at hk'; injection hk' with hk'; subst hk'
      refine ⟨⟨t, ?_⟩, him⟩
      rw [heap_setCell ht, hset _ rfl]
      simp
    · have hne : b' ≠ b := fun e2 => e (hg.inj k' k b' hk' (by rw [e2]; exact hb))
      obtain ⟨⟨t', ht'⟩, him'⟩ := hg.mts k' b' hk'
      exact ⟨⟨t', by rw [heap_setCell_ne hne, upd_ne _ _ e]; exact ht'⟩, him'⟩
  refine ⟨main 0 _ _ (fun t w b h => by simp [World.cell?, h]) (fun v hv => by simp [hv]), main 1 _ _ (fun t w b h => by simp [World.cell?, h]) (fun v hv => by simp [hv])⟩

theorem meter_load (raw : ∀ (b off : Nat) (c : Int) (w : World), w.cell? ⟨b, off, none⟩ = some (.int .i64 c) → Calls P f #[.pointer (some ⟨b, off, none⟩)] w fun e w' => e = .returned (.int .i64 c) ∧ w' = w) (k : Nat) (gl : Nat → Int × Int) :
    PCalls P f [.mtr k 0] gl (fun r gl' => r = .pv (.int .i64 (IntKind.i64.wrap (gl k).1)) ∧ gl' = gl) ∧ PCalls P f [.mtr k 1] gl (fun r gl' => r = .pv (.int .i64 (IntKind.i64.wrap (gl k).2)) ∧ gl' = gl) := by
  have main : ∀ (off : Nat) (c : Int), (∀ (t : TypeId) (w : World) (b : Nat), w.heap[b]? = some (.cells #[.int .i64 (IntKind.i64.wrap (gl k).1), .int .i64 (IntKind.i64.wrap (gl k).2)] t (0, 0)) → w.cell? ⟨b, off, none⟩ = some (.int .i64 (IntKind.i64.wrap c))) →
      PCalls P f [.mtr k off] gl (fun r gl' => r = .pv (.int .i64 (IntKind.i64.wrap c)) ∧ gl' = gl) := by
    intro off c hcell im mt w vs hg hsz ha
    obtain ⟨b, hb, h0⟩ := srel_mtr (ha 0 (by simp) (by simp at hsz; omega))
    have hvs := args_one (vs := vs) (by simpa using hsz)

    rw [hvs, h0]
    replace hb : mt k = some b := hb
    obtain ⟨⟨t, ht⟩, him⟩ := hg.mts k b hb
    refine (raw b off _ w (hcell t w b ht)).mono fun e w' ⟨he, hw⟩ => ?_
    subst hw
    exact ⟨_, .pv (.int .i64 (IntKind.i64.wrap c)), gl, im, he, ⟨rfl, rfl⟩, .pv (.int _ _), ⟨rfl, rfl, rfl, Nat.le_refl _, fun _ _ => rfl, fun _ _ _ => rfl⟩, hg⟩
  exact ⟨main 0 _ (fun t w b h => by simp [World.cell?, h]), main 1 _ (fun t w b h => by simp [World.cell?, h])⟩

theorem meter_new {T : TypeId} (raw : ∀ (w : World), Calls P f #[] w fun e w' => e = .returned (.pointer (some ⟨w.heap.size, 0, none⟩)) ∧ w' = w.alloc (.cells #[.int .i64 0, .int .i64 0] T)) (gl : Nat → Int × Int) :
    PCalls P f [] gl (fun r gl' => r = .newm 0 0 ∧ gl' = gl) := by
  intro im mt w vs hg hsz ha
  have hvs : vs = #[] := by apply Array.eq_empty_of_size_eq_zero; simpa using hsz
  subst hvs
  refine (raw w).mono fun e w' ⟨he, hw⟩ => ?_
  subst hw
  refine ⟨_, .newm 0 0, gl, im, he, ⟨rfl, rfl⟩, (.newm _ 0 0 T (Nat.le_refl _) (by rw [heap_new w _]; rfl) (hg.imz _ (Nat.le_refl _))), ⟨rfl, rfl, rfl, by simp, fun _ _ => rfl, fun b hb _ => World.heap_alloc_lt w _ b hb⟩, ⟨fun b hb => hg.imz b ?_, fun k b hk => ?_, hg.inj, hg.bnd, hg.tab.keep fun b hb _ => World.heap_alloc_lt w _ b hb⟩⟩
  · have : w.heap.size + 1 ≤ b := by simpa using hb
    omega
  · obtain ⟨⟨t, ht⟩, him⟩ := hg.mts k b hk
    exact ⟨⟨t, by rw [World.heap_alloc_lt w _ b (heap_lt ht)]; exact ht⟩, him⟩

end

theorem pops_mono {P : Program} {imm : TypeId → Bool} {nt : Nat} {ops : Array Oper} {K K' : PS → Prop} (hk : ∀ s, K s → K' s) : ∀ (l : List Oper) (s : PS), pops P imm nt ops l s K → pops P imm nt ops l s K'
  | [], s, h => hk s h
  | _ :: l, _, h => pone_mono h fun s' h' => pops_mono hk l s' h'

theorem padopt_mono {P : Program} {imm : TypeId → Bool} {nt : Nat} {ops : Array Oper} {K K' : PS → Prop} (hk : ∀ s, K s → K' s) : ∀ (l : List Oper) (s : PS), padopt P imm nt ops l s K → padopt P imm nt ops l s K'
  | [], s, h => h.elim
  | o :: l, s, h => by
    unfold padopt at h ⊢
    split at h
    · unfold padoptC at h ⊢
      split at h
      · obtain ⟨h1, h2, h3, rows, h4, h5, h6⟩ := h
        exact ⟨h1, h2, h3, rows, h4, h5, fun cells hc => pops_mono hk l _ (h6 cells hc)⟩
      · exact h.elim
    · exact pone_mono h fun s' h' => padopt_mono hk l s' h'

theorem pwp_mono {P : Program} {imm : TypeId → Bool} {nt : Nat} : ∀ (c : Code) {Q Q' : PX → PS → Prop} {s : PS}, (∀ e s, Q e s → Q' e s) → pwp P imm nt c Q s → pwp P imm nt c Q' s
  | .skip, Q, Q', s, hq, h => hq _ _ h
  | .region id ops draw, Q, Q', s, hq, h => by
    simp only [pwp] at h ⊢
    split at h
    · rename_i hc
      rw [if_pos hc]
      exact ⟨h.1, padopt_mono (hq .norm) _ _ h.2⟩
    rename_i hc0
    rw [if_neg hc0]
    split at h
    · rename_i hc
      rw [if_pos hc]
      obtain ⟨s0, hle, h⟩ := h
      exact ⟨s0, hle, pops_mono (hq .norm) _ _ h⟩
    · rename_i hc
      rw [if_neg hc]
      exact pops_mono (hq .norm) _ _ h
  | .seq x y, Q, Q', s, hq, h => pwp_mono x (fun e s' h' => by cases e with
      | norm => exact pwp_mono y hq h'
      | exit id => exact hq _ _ h'
      | ret => exact hq _ _ h') h
  | .cond c x y, Q, Q', s, hq, h => by
    simp only [pwp] at h ⊢
    split at h
    · split at h
      · rename_i hb; rw [if_pos hb]; exact pwp_mono x hq h
      · rename_i hb; rw [if_neg hb]; exact pwp_mono y hq h
    · exact h.elim
  | .block id c, Q, Q', s, hq, h => pwp_mono c (fun e s' h' => by cases e with
      | norm => exact hq _ _ h'
      | exit i =>
        simp only at h' ⊢
        split at h'
        · rename_i hi; rw [if_pos hi]; exact hq _ _ h'
        · rename_i hi; rw [if_neg hi]; exact hq _ _ h'
      | ret => exact hq _ _ h') h
  | .loop c, Q, Q', s, hq, h => by
    obtain ⟨I, μ, h0, hr⟩ := h
    exact ⟨I, μ, h0, fun s hs => pwp_mono c (fun e s' h' => by cases e with
      | norm => exact h'
      | exit id => exact hq _ _ h'
      | ret => exact hq _ _ h') (hr s hs)⟩
  | .exit id, Q, Q', s, hq, h => hq _ _ h
  | .ret, Q, Q', s, hq, h => hq _ _ h
  | .rangeFunc .., _, _, _, _, h => h.elim
  | .scope _, _, _, _, _, h => h.elim
  | .label _, _, _, _, _, h => h.elim
  | .goto _, _, _, _, _, h => h.elim
  | .refuse _, _, _, _, _, h => h.elim

/-- The least of some numbers. -/
theorem least_of {p : Nat → Prop} (h : ∃ n, p n) : ∃ n, p n ∧ ∀ m, p m → n ≤ m := by
  obtain ⟨n, hn⟩ := h
  induction n using Nat.strongRecOn with
  | _ n ih =>
    by_cases hall : ∀ m, p m → n ≤ m
    · exact ⟨n, hn, hall⟩
    · simp only [Classical.not_forall] at hall
      obtain ⟨m, hm, hlt⟩ := hall
      exact ih m (by omega) hm

/-- A loop, with a ghost that goes down. -/
theorem pwp_loop {P : Program} {imm : TypeId → Bool} {nt : Nat} {c : Code} {Q : PX → PS → Prop} {s : PS} {α : Type} (I : α → PS → Prop) (μ : α → Nat) (x0 : α) (s0 : PS) (hle : LeS s0 s) (h0 : I x0 s0)
    (step : ∀ x s, I x s → pwp P imm nt c (fun e s' => match e with | .norm => ∃ x' s0, LeS s0 s' ∧ I x' s0 ∧ μ x' < μ x | e => Q e s') s) : pwp P imm nt (.loop c) Q s := by
  have hex : ∀ s : PS, ∃ n : Nat, (∃ x, I x s) → (∃ x, I x s ∧ μ x = n) ∧ ∀ x, I x s → n ≤ μ x := by
    intro s
    by_cases hs : ∃ x, I x s
    · obtain ⟨n, hn, hl⟩ := least_of (p := fun n => ∃ x, I x s ∧ μ x = n) (by obtain ⟨x, hx⟩ := hs; exact ⟨_, x, hx, rfl⟩)
      exact ⟨n, fun _ => ⟨hn, fun x hx => hl _ ⟨x, hx, rfl⟩⟩⟩
    · exact ⟨0, fun h => absurd h hs⟩
  obtain ⟨ν, hν⟩ := Classical.axiomOfChoice hex
  refine ⟨fun s => ∃ x, I x s, ν, ⟨s0, hle, x0, h0⟩, fun s hs => ?_⟩
  obtain ⟨⟨x, hx, hn⟩, _⟩ := hν s hs
  refine pwp_mono _ (fun e s' hq => ?_) (step x s hx)
  cases e with
  | norm =>
    obtain ⟨x', s1, hle', hx', hlt⟩ := hq
    have := (hν s1 ⟨x', hx'⟩).2 x' hx'
    exact ⟨s1, hle', ⟨x', hx'⟩, by omega⟩
  | exit id => exact hq
  | ret => exact hq

/-- The state holds at least that. -/
def At (s : PS) (l : List (Nat × SV)) (m : List (Nat × List PV)) (g : Nat → Int × Int) (n : Nat) : Prop := allFit s m l ∧ (tokens l).Nodup ∧ locFit s m ∧ s.gl = g ∧ s.gn = n

@[congr] theorem pcut_congr {s s' : PS} {K : PS → Prop} (h : s = s') : pcut s K = pcut s' K := by rw [h]
/-- What is forgotten ahead of a region. -/
theorem pcut_at {s : PS} {K : PS → Prop} (l : List (Nat × SV)) (m : List (Nat × List PV)) (g : Nat → Int × Int) (n : Nat) (h : At s l m g n) (k : K ⟨look l, look m, g, n⟩) : pcut s K :=
  ⟨_, ⟨l, m, by rw [h.2.2.2.1, h.2.2.2.2], h.1, h.2.1, h.2.2.1⟩, k⟩
def cutImm : List Nat → (TypeId → Bool) → TypeId → Bool
  | [], imm, t => imm t
  | i :: l, imm, t => 1000000 + i == t || cutImm l imm t
@[simp] theorem cutImm_nil (imm : TypeId → Bool) (t : TypeId) : cutImm [] imm t = imm t := rfl
@[simp] theorem cutImm_cons (i : Nat) (l : List Nat) (imm : TypeId → Bool) (t : TypeId) : cutImm (i :: l) imm t = (1000000 + i == t || cutImm l imm t) := rfl

@[congr] theorem padoptC_congr {P : Program} {nt : Nat} {s s' : PS} {d : Option Nat} {c : Call} {K : PS → Prop} (h : s = s') : padoptC P nt s d c K = padoptC P nt s' d c K := by rw [h]
@[congr] theorem padopt_congr {P : Program} {imm : TypeId → Bool} {nt : Nat} {ops : Array Oper} {l : List Oper} {s s' : PS} {K : PS → Prop} (h : s = s') : padopt P imm nt ops l s K = padopt P imm nt ops l s' K := by rw [h]
/-- These regions' answers become local boxes. -/
def adoptImm : List Nat → (TypeId → Bool) → TypeId → Bool
  | [], imm, t => imm t
  | i :: l, imm, t => 2000000 + i == t || adoptImm l imm t
@[simp] theorem adoptImm_nil (imm : TypeId → Bool) (t : TypeId) : adoptImm [] imm t = imm t := rfl
@[simp] theorem adoptImm_cons (i : Nat) (l : List Nat) (imm : TypeId → Bool) (t : TypeId) : adoptImm (i :: l) imm t = (2000000 + i == t || adoptImm l imm t) := rfl
/-- A call's answer is taken as a local box. -/
theorem padoptC_use {P : Program} {nt : Nat} {s : PS} {d : Nat} {c : Call} {K : PS → Prop} {f : FuncId} {l : List SV} (hl : pcallOf P s.env c = some (f, l)) (hf : callFits P f) (hd : d < nt) (h0 : s.loc d = none) (rows : List (List PV)) (hne : rows ≠ [])
    (hc : PCalls P f l s.gl fun r gl' => r = .fresh rows ∧ gl' = s.gl) (k : ∀ cells, Adopted rows cells → K { s with env := upd s.env d (some (.lrow d rows.length)), loc := upd s.loc d (some cells) }) : padoptC P nt s (some d) c K := by
  unfold padoptC
  rw [hl]
  exact ⟨hf, hd, h0, rows, hne, hc, k⟩
@[simp] theorem padopt_call {P : Program} {imm : TypeId → Bool} {nt : Nat} {s : PS} {ops : Array Oper} {l : List Oper} {K : PS → Prop} {d : Option Nat} {ty : TypeId} {pos : String} {af : Array Edge} (f : FuncId) (args : Array Operand) (ts : Array TypeId) :
    padopt P imm nt ops (⟨d, .call ⟨.value (.func f), args, ts⟩, ty, pos, af, none⟩ :: l) s K = padoptC P nt s d ⟨.value (.func f), args, ts⟩ fun s' => pops P imm nt ops l s' K := rfl
@[simp] theorem padopt_move {P : Program} {imm : TypeId → Bool} {nt : Nat} {s : PS} {ops : Array Oper} {l : List Oper} {K : PS → Prop} {d : Option Nat} {ty : TypeId} {pos : String} {af : Array Edge} {gd : Option (Nat × Bool)} (x : Operand) :
    padopt P imm nt ops (⟨d, .move x, ty, pos, af, gd⟩ :: l) s K = pone P imm nt ops ⟨d, .move x, ty, pos, af, gd⟩ s fun s' => padopt P imm nt ops l s' K := rfl

/-- A loop, at whose head the state is told by a ghost that goes down. -/
theorem pwp_loopS {P : Program} {imm : TypeId → Bool} {nt : Nat} {c : Code} {Q : PX → PS → Prop} {s : PS} {α : Type} (p : α → Prop) (L : α → List (Nat × SV)) (M : α → List (Nat × List PV)) (G : α → Nat → Int × Int) (N : α → Nat) (μ : α → Nat) (x0 : α) (hp : p x0)
    (h0 : At s (L x0) (M x0) (G x0) (N x0))
    (step : ∀ x, p x → pwp P imm nt c (fun e s' => match e with | .norm => ∃ x', p x' ∧ μ x' < μ x ∧ At s' (L x') (M x') (G x') (N x') | e => Q e s') ⟨look (L x), look (M x), G x, N x⟩) : pwp P imm nt (.loop c) Q s := by
  refine pwp_loop (fun x s => p x ∧ s = ⟨look (L x), look (M x), G x, N x⟩) μ x0 _ ⟨L x0, M x0, by rw [h0.2.2.2.1, h0.2.2.2.2], h0.1, h0.2.1, h0.2.2.1⟩ ⟨hp, rfl⟩ fun x s hs => ?_
  obtain ⟨hx, rfl⟩ := hs
  refine pwp_mono c (fun e s' hq => ?_) (step x hx)
  cases e with
  | norm =>
    obtain ⟨x', hx', hlt, h1⟩ := hq
    exact ⟨x', _, ⟨L x', M x', by rw [h1.2.2.2.1, h1.2.2.2.2], h1.1, h1.2.1, h1.2.2.1⟩, ⟨hx', rfl⟩, hlt⟩
  | exit id => exact hq
  | ret => exact hq

section
variable {P : Program} {imm : TypeId → Bool} {nt : Nat} {Q : PX → PS → Prop} {s : PS}
@[simp] theorem pwp_skip : pwp P imm nt .skip Q s = Q .norm s := rfl
@[simp] theorem pwp_region (id : Nat) (ops : Array Oper) (draw : Bool) : pwp P imm nt (.region id ops draw) Q s = if imm (2000000 + id) then draw = false ∧ padopt P imm nt ops ops.toList s (Q .norm) else if imm (1000000 + id) then pcut s fun s0 => pops P imm nt ops ops.toList s0 (Q .norm) else pops P imm nt ops ops.toList s (Q .norm) := rfl
@[simp] theorem pwp_seq (x y : Code) : pwp P imm nt (.seq x y) Q s = pwp P imm nt x (fun e s' => match e with | .norm => pwp P imm nt y Q s' | e => Q e s') s := rfl
@[simp] theorem pwp_cond (c : Operand) (x y : Code) : pwp P imm nt (.cond c x y) Q s = match boolIn (ev s.env c) with
    | some b => if b then pwp P imm nt x Q s else pwp P imm nt y Q s
    | _ => False := rfl
@[simp] theorem pwp_block (id : Nat) (c : Code) : pwp P imm nt (.block id c) Q s = pwp P imm nt c (fun e s' => match e with | .exit i => if i = id then Q .norm s' else Q (.exit i) s' | e => Q e s') s := rfl
@[simp] theorem pwp_exit (id : Nat) : pwp P imm nt (.exit id) Q s = Q (.exit id) s := rfl
@[simp] theorem pwp_ret : pwp P imm nt .ret Q s = Q .ret s := rfl
end

section
variable {P : Program} {imm : TypeId → Bool} {nt : Nat} {s : PS} {K : PS → Prop} {d : Option Nat} {ty : TypeId} {pos : String} {af : Array Edge} {gd : Option (Nat × Bool)}

/-- What is put, if there is something. -/
def putK (nt : Nat) (s : PS) (d : Option Nat) (K : PS → Prop) : Option SV → Prop
  | some v => dstFits nt d ∧ K (s.put d v)
  | none => False
/-- The same under a condition. -/
def putC (nt : Nat) (s : PS) (d : Option Nat) (K : PS → Prop) : Option (Prop × SV) → Prop
  | some (c, v) => c ∧ dstFits nt d ∧ K (s.put d v)
  | none => False
@[congr] theorem putK_congr {o o' : Option SV} (h : o = o') : putK nt s d K o = putK nt s d K o' := by rw [h]
@[congr] theorem putC_congr {o o' : Option (Prop × SV)} (h : o = o') : putC nt s d K o = putC nt s d K o' := by rw [h]
@[simp] theorem putK_some (v : SV) : putK nt s d K (some v) = (dstFits nt d ∧ K (s.put d v)) := rfl
@[simp] theorem putK_none : putK nt s d K none = False := rfl
@[simp] theorem putC_some (c : Prop) (v : SV) : putC nt s d K (some (c, v)) = (c ∧ dstFits nt d ∧ K (s.put d v)) := rfl
@[simp] theorem putC_none : putC nt s d K none = False := rfl

@[simp] theorem pop1_move (x : Operand) : pop1 P imm nt s ⟨d, .move x, ty, pos, af, gd⟩ K = putK nt s d K (ev s.env x) := by
  simp only [pop1, goCall, pstep]; cases ev s.env x <;> simp [PS.eff]
@[simp] theorem pop1_assign (x : Operand) : pop1 P imm nt s ⟨d, .assign x, ty, pos, af, gd⟩ K = putK nt s d K (ev s.env x) := by
  simp only [pop1, goCall, pstep]; cases ev s.env x <;> simp [PS.eff]
@[simp] theorem pop1_pick (c x y : Operand) : pop1 P imm nt s ⟨d, .pick c x y, ty, pos, af, gd⟩ K = putK nt s d K (match boolIn (ev s.env c) with | some t => if t then ev s.env x else ev s.env y | none => none) := by
  simp only [pop1, goCall, pstep]
  cases boolIn (ev s.env c) with
  | none => rfl
  | some t => cases t
              · cases ev s.env y <;> simp [PS.eff]
              · cases ev s.env x <;> simp [PS.eff]
@[simp] theorem pop1_nil (x : Operand) : pop1 P imm nt s ⟨d, .nilCheck x, ty, pos, af, gd⟩ K = putK nt s d K ((ptrIn (ev s.env x)).map Ptr.sv) := by
  simp only [pop1, goCall, pstep]; cases ptrIn (ev s.env x) <;> simp [PS.eff]
def loadIn (s : PS) : Option (Nat × Bool) → Option Ptr → Option SV
  | some (size, agg), some (.loc d off) => (s.loc d).bind fun cells => (partOf agg off size cells).map .pv
  | some (size, agg), some (.ref cells off) => (partOf agg off size cells).map .pv
  | _, _ => none
@[simp] theorem pop1_load (t : TypeId) (x : Operand) : pop1 P imm nt s ⟨d, .load t x, ty, pos, af, gd⟩ K = putK nt s d K (loadIn s (tyP P t) (ptrIn (ev s.env x))) := by
  simp only [pop1, goCall, pstep]
  rcases tyP P t with _ | ⟨size, agg⟩
  · rfl
  · rcases ptrIn (ev s.env x) with _ | p
    · rfl
    · cases p with
      | loc dd off =>
        simp only [loadIn]
        cases s.loc dd with
        | none => rfl
        | some cells => simp only [Option.bind_some]; cases partOf agg off size cells <;> simp [PS.eff]
      | ref cells off => simp only [loadIn]; cases partOf agg off size cells <;> simp [PS.eff]
      | mtr k off => rfl
def binIn (P : Program) (op : BinOp) (t : TypeId) (u v : Option PV) (p : Option Ptr) : Option (Prop × SV) := match u, v with
  | some p, some q => (pbin P op t p q).map fun r => (r.1, .pv r.2)
  | none, some .nilp => match p, op with
    | some _, .eql => some (P.underlying t = some (.pointer (P.pointee t)), .pv (.bool false))
    | some _, .neq => some (P.underlying t = some (.pointer (P.pointee t)), .pv (.bool true))
    | _, _ => none
  | _, _ => none
@[simp] theorem pop1_bin (op : BinOp) (t t' : TypeId) (x y : Operand) : pop1 P imm nt s ⟨d, .binOp op t x y t', ty, pos, af, gd⟩ K = putC nt s d K (if nilC y then (sliceNil P op t ((ev s.env x).bind SV.pv?)).map (fun r => (r.1, r.2.1)) else binIn P op t ((ev s.env x).bind SV.pv?) ((ev s.env y).bind SV.pv?) (ptrIn (ev s.env x))) := by
  simp only [pop1, goCall, pstep, binIn]
  by_cases hn : nilC y = true
  · simp only [hn, if_true]
    cases hs : sliceNil P op t ((ev s.env x).bind SV.pv?) with
    | none => rfl
    | some r =>
      obtain ⟨c, v, e⟩ := r
      obtain rfl := sliceNil_eff hs
      simp [PS.eff]
  simp only [hn, if_false, Bool.false_eq_true]
  cases (ev s.env x).bind SV.pv? with
  | none => cases (ev s.env y).bind SV.pv? with
    | none => rfl
    | some q =>
      cases q <;> try rfl
      cases ptrIn (ev s.env x) with
      | none => rfl
      | some p => cases op <;> rfl
  | some p => cases (ev s.env y).bind SV.pv? with
    | none => rfl
    | some q => simp only []; cases pbin P op t p q <;> simp [PS.eff]
@[simp] theorem pop1_not (t : TypeId) (x : Operand) : pop1 P imm nt s ⟨d, .unOp .not t x, ty, pos, af, gd⟩ K = putK nt s d K ((boolIn (ev s.env x)).map fun b => .pv (.bool (!b))) := by
  simp only [pop1, goCall, pstep]; cases boolIn (ev s.env x) <;> simp [PS.eff]
@[simp] theorem pop1_neg (t : TypeId) (x : Operand) : pop1 P imm nt s ⟨d, .unOp .neg t x, ty, pos, af, gd⟩ K = putK nt s d K ((intIn (ev s.env x)).map fun q => .pv (.int q.1 (q.1.wrap (0 - q.2)))) := by
  simp only [pop1, goCall, pstep]; cases intIn (ev s.env x) <;> simp [PS.eff]
def faIn : Option (Nat × Nat × Bool) → Option Ptr → Option (Prop × SV)
  | some (o, size, _), some (.loc d off) => some (0 < size, .loc d (off + o))
  | some (o, size, _), some (.ref cells off) => some (0 < size, .pv (.ref cells (off + o)))
  | some (o, size, _), some (.mtr k off) => some (0 < size, .mtr k (off + o))
  | _, _ => none
@[simp] theorem pop1_fieldAddr (t : TypeId) (x : Operand) (f : Nat) : pop1 P imm nt s ⟨d, .fieldAddr t x f, ty, pos, af, gd⟩ K = putC nt s d K (faIn (fldP P t f) (ptrIn (ev s.env x))) := by
  simp only [pop1, goCall, pstep]
  rcases fldP P t f with _ | ⟨o, size, ag⟩
  · rfl
  · rcases ptrIn (ev s.env x) with _ | p
    · rfl
    · cases p <;> simp [PS.eff, faIn]
def fieldIn : Option (Nat × Nat × Bool) → Option (List PV) → Option SV
  | some (o, size, agg), some cells => (partOf agg o size cells).map .pv
  | _, _ => none
@[simp] theorem pop1_field (t : TypeId) (x : Operand) (f : Nat) : pop1 P imm nt s ⟨d, .field t x f, ty, pos, af, gd⟩ K = putK nt s d K (fieldIn (fldP P t f) (aggIn (ev s.env x))) := by
  simp only [pop1, goCall, pstep]
  rcases fldP P t f with _ | ⟨o, size, ag⟩
  · rfl
  · rcases aggIn (ev s.env x) with _ | c
    · rfl
    · simp only [fieldIn]; cases partOf ag o size c <;> simp [PS.eff]
def ixIn : Option (TypeId × Nat × Nat) → Option PV → Option (IntKind × Int) → Option (Nat × Nat) → Option (Prop × SV)
  | some (_, size, _), some (.list xs), some (_, i), _ => some (pidx i xs.length ∧ Wide size xs, .pv (.ref (xs.getD i.toNat []) 0))
  | some (_, size, _), none, some (_, i), some (d, n) => some (pidx i n, .loc d (i.toNat * size))
  | _, _, _, _ => none
@[simp] theorem pop1_indexAddr (t : TypeId) (x ix : Operand) : pop1 P imm nt s ⟨d, .indexAddr t x ix, ty, pos, af, gd⟩ K = putC nt s d K (ixIn (elmP P t) ((ev s.env x).bind SV.pv?) (intIn (ev s.env ix)) (lrowIn (ev s.env x))) := by
  simp only [pop1, goCall, pstep]
  rcases elmP P t with _ | ⟨e, size, b⟩
  · rfl
  · rcases (ev s.env x).bind SV.pv? with _ | p
    · rcases intIn (ev s.env ix) with _ | ⟨k, i⟩
      · rfl
      · rcases lrowIn (ev s.env x) with _ | ⟨d', n⟩
        · rfl
        · simp [PS.eff, ixIn]
    · cases p <;> try rfl
      rcases intIn (ev s.env ix) with _ | ⟨k, i⟩
      · rfl
      · simp [PS.eff, ixIn]
@[simp] theorem pop1_extract (x : Operand) (i : Nat) : pop1 P imm nt s ⟨d, .extract x i, ty, pos, af, gd⟩ K = putK nt s d K ((tupIn (ev s.env x)).bind fun vs => vs[i]?) := by
  simp only [pop1, goCall, pstep]; cases (tupIn (ev s.env x)).bind fun vs => vs[i]? <;> simp [PS.eff]
def buildIn (z : Option (List PV)) (ok : Bool) (pl : Nat → Option (Nat × Nat × Bool)) (ps : List (Nat × Option PV)) : Option SV := match ok, z with
  | true, some z => (pfill pl z ps).map fun c => .pv (.agg c)
  | _, _ => none
@[simp] theorem pop1_build (t : TypeId) (parts : Array (Nat × Operand)) : pop1 P imm nt s ⟨d, .build t parts, ty, pos, af, gd⟩ K = putK nt s d K (buildIn (zeroP P t) (fldsP P t) (fldP P t) (parts.toList.map fun q => (q.1, (ev s.env q.2).bind SV.pv?))) := by
  simp only [pop1, goCall, pstep, buildIn]
  cases fldsP P t with
  | false => rfl
  | true => cases zeroP P t with
    | none => rfl
    | some z => simp only []; cases pfill (fldP P t) z (parts.toList.map fun q => (q.1, (ev s.env q.2).bind SV.pv?)) <;> simp [PS.eff]
@[simp] theorem pop1_box (t : TypeId) (x : Operand) (k : Nat) : pop1 P imm nt s ⟨some k, .box t x, ty, pos, af, gd⟩ K = match (ev s.env x).bind SV.pv? with
    | some p => if imm t then k < nt ∧ K (s.put (some k) (.pv (.ref p.cells 0))) else s.loc k = none ∧ k < nt ∧ K ({ s with loc := upd s.loc k (some p.cells) }.put (some k) (.loc k 0))
    | none => False := by
  simp only [pop1, goCall, pstep]
  cases (ev s.env x).bind SV.pv? with
  | none => rfl
  | some p => cases h : imm t <;> simp [PS.eff, dstFits]
@[simp] theorem pop1_alloc (t : TypeId) (k : Nat) : pop1 P imm nt s ⟨some k, .alloc t, ty, pos, af, gd⟩ K = match zeroP P t with
    | some z => s.loc k = none ∧ k < nt ∧ K ({ s with loc := upd s.loc k (some z) }.put (some k) (.loc k 0))
    | none => False := by
  simp only [pop1, goCall, pstep]
  cases zeroP P t with
  | none => rfl
  | some z => simp [PS.eff, dstFits]
@[simp] theorem pop1_store (t : TypeId) (x y : Operand) : pop1 P imm nt s ⟨none, .store t x y, ty, pos, af, gd⟩ K = match tyP P t, ptrIn (ev s.env x), (ev s.env y).bind SV.pv? with
    | some (size, _), some (.loc d off), some p => match s.loc d with
      | some cells => (p.cells.length = size ∧ off + size ≤ cells.length) ∧ K { s with loc := upd s.loc d (some (splice off p.cells cells)) }
      | none => False
    | _, _, _ => False := by
  simp only [pop1, goCall, pstep]
  rcases tyP P t with _ | ⟨size, ag⟩
  · rfl
  · rcases ptrIn (ev s.env x) with _ | p
    · rfl
    · rcases (ev s.env y).bind SV.pv? with _ | q
      · cases p <;> rfl
      · cases p <;> try rfl
        rename_i dd off
        simp only []
        cases s.loc dd with
        | none => rfl
        | some cells => simp [PS.eff, PS.put, dstFits]
@[simp] theorem pop1_call' (f : FuncId) (args : Array Operand) (ts : Array TypeId) : pop1 P imm nt s ⟨d, .call ⟨.value (.func f), args, ts⟩, ty, pos, af, gd⟩ K = match pargs s.env args.toList with
    | some l => callFits P f ∧ dstFits nt d ∧ PCalls P f l s.gl fun r gl' => K (({ s with gl := gl' } : PS).answer d r)
    | none => False := by
  rw [pop1_call (c := ⟨.value (.func f), args, ts⟩) rfl]
  unfold pcallOf
  cases pargs s.env args.toList <;> rfl
@[simp] theorem pop1_callV (x : Nat) (args : Array Operand) (ts : Array TypeId) : pop1 P imm nt s ⟨d, .call ⟨.value (.tmp x), args, ts⟩, ty, pos, af, gd⟩ K = match pvIn (s.env x), pargs s.env args.toList with
    | some (.clo f caps), some l => callFits P f ∧ dstFits nt d ∧ PCalls P f (l ++ caps.map .pv) s.gl fun r gl' => K (({ s with gl := gl' } : PS).answer d r)
    | _, _ => False := by
  rw [pop1_call (c := ⟨.value (.tmp x), args, ts⟩) rfl]
  unfold pcallOf ptarget
  simp only [ev]
  cases pargs s.env args.toList with
  | none => cases pvIn (s.env x) with
    | none => rfl
    | some p => cases p <;> rfl
  | some l => cases pvIn (s.env x) with
    | none => rfl
    | some p => cases p <;> rfl
@[simp] theorem pop1_inv (x : Operand) (name : String) (args : Array Operand) (ts : Array TypeId) : pop1 P imm nt s ⟨d, .call ⟨.invoke x name, args, ts⟩, ty, pos, af, gd⟩ K = match pvIn (ev s.env x), pargs s.env args.toList with
    | some (.ifc t p), some l => (match methP P t name with
      | some f => callFits P f ∧ dstFits nt d ∧ PCalls P f (.pv p :: l) s.gl fun r gl' => K (({ s with gl := gl' } : PS).answer d r)
      | none => False)
    | _, _ => False := by
  rw [pop1_call (c := ⟨.invoke x name, args, ts⟩) rfl]
  unfold pcallOf ptarget
  cases pargs s.env args.toList with
  | none => cases pvIn (ev s.env x) with
    | none => rfl
    | some p => cases p <;> rfl
  | some l =>
    simp only [Option.bind_some]
    cases pvIn (ev s.env x) with
    | none => rfl
    | some p =>
      cases p <;> try rfl
      rename_i t p
      simp only []
      cases methP P t name <;> rfl
@[simp] theorem pop1_iface (t : TypeId) (x : Operand) : pop1 P imm nt s ⟨d, .makeInterface t x, ty, pos, af, gd⟩ K = putK nt s d K (if plainT P t then ((ev s.env x).bind SV.pv?).map fun p => .pv (.ifc t p) else none) := by
  simp only [pop1, goCall, pstep]
  by_cases h : plainT P t = true
  · simp only [h, if_true]; cases (ev s.env x).bind SV.pv? <;> simp [PS.eff]
  · simp [h]
@[simp] theorem pop1_func (f : FuncId) (first caps : Array Operand) : pop1 P imm nt s ⟨d, .makeFunc (.func f) first caps, ty, pos, af, gd⟩ K = putK nt s d K (match first.toList, allPv s.env caps.toList with | [], some ps => some (.pv (.clo f ps)) | _, _ => none) := by
  simp only [pop1, goCall, pstep]
  cases first.toList with
  | nil => cases allPv s.env caps.toList <;> simp [PS.eff]
  | cons y r => rfl
@[simp] theorem nilC_tmp (n : Nat) : nilC (.tmp n) = false := rfl
@[simp] theorem nilC_func (n : Nat) : nilC (.func n) = false := rfl
@[simp] theorem nilC_int (k : IntKind) (n : Int) : nilC (.const (.int k n)) = false := rfl
@[simp] theorem nilC_bool (b : Bool) : nilC (.const (.bool b)) = false := rfl
@[simp] theorem nilC_str (s : ByteArray) : nilC (.const (.string s)) = false := rfl
@[simp] theorem nilC_ptr (a : Option Addr) : nilC (.const (.pointer a)) = false := rfl
@[simp] theorem nilC_nil : nilC (.const (.slice none 0 0)) = true := rfl
end

/-- A meter that may be none. -/
def mv : Option Nat → SV
  | none => .pv .nilp
  | some k => .mtr k 0
/-- So many comparisons, and things made, more. -/
def tick (m : Option Nat) (c d : Int) (gl : Nat → Int × Int) : Nat → Int × Int := match m with
  | none => gl
  | some k => upd gl k ((gl k).1 + c, (gl k).2 + d)

@[simp] theorem arg_pv (p : PV) : SV.arg? (.pv p) = some (.pv p) := rfl
@[simp] theorem arg_mtr (k off : Nat) : SV.arg? (.mtr k off) = some (.mtr k off) := rfl
@[simp] theorem arg_full (xs : List (List PV)) : SV.arg? (.full xs) = some (.pv (.list xs)) := rfl
@[simp] theorem arg_own (k : Nat) (xs : List (List PV)) : SV.arg? (.own k xs) = some (.pv (.list xs)) := rfl
@[simp] theorem arg_loc (d off : Nat) : SV.arg? (.loc d off) = none := rfl
@[simp] theorem arg_lrow (d n : Nat) : SV.arg? (.lrow d n) = none := rfl
@[simp] theorem plain_lrow (d n : Nat) : plainSV (.lrow d n) = true := rfl
@[simp] theorem locs_lrow (l : List (Nat × List PV)) (d n : Nat) : locsIn l (.lrow d n) = ((look l d).isSome = true) := rfl
@[simp] theorem arg_undef : SV.arg? .undef = none := rfl
@[simp] theorem arg_mv (m : Option Nat) : SV.arg? (mv m) = some (mv m) := by cases m <;> rfl
@[simp] theorem plain_pv (p : PV) : plainSV (.pv p) = true := rfl
@[simp] theorem plain_mtr (k off : Nat) : plainSV (.mtr k off) = true := rfl
@[simp] theorem plain_full (xs : List (List PV)) : plainSV (.full xs) = true := rfl
@[simp] theorem plain_own (k : Nat) (xs : List (List PV)) : plainSV (.own k xs) = true := rfl
@[simp] theorem plain_loc (d off : Nat) : plainSV (.loc d off) = true := rfl
@[simp] theorem plain_undef : plainSV .undef = true := rfl
@[simp] theorem plain_mv (m : Option Nat) : plainSV (mv m) = true := by cases m <;> rfl
@[simp] theorem locs_pv (l : List (Nat × List PV)) (p : PV) : locsIn l (.pv p) = True := rfl
@[simp] theorem locs_mtr (l : List (Nat × List PV)) (k off : Nat) : locsIn l (.mtr k off) = True := rfl
@[simp] theorem locs_full (l : List (Nat × List PV)) (xs : List (List PV)) : locsIn l (.full xs) = True := rfl
@[simp] theorem locs_own (l : List (Nat × List PV)) (k : Nat) (xs : List (List PV)) : locsIn l (.own k xs) = True := rfl
@[simp] theorem locs_undef (l : List (Nat × List PV)) : locsIn l .undef = True := rfl
@[simp] theorem locs_loc (l : List (Nat × List PV)) (d off : Nat) : locsIn l (.loc d off) = ((look l d).isSome = true) := rfl
@[simp] theorem locs_mv (l : List (Nat × List PV)) (m : Option Nat) : locsIn l (mv m) = True := by cases m <;> rfl
@[simp 3000] theorem dem_mv (d : Nat) (m : Option Nat) : (mv m).demote d = mv m := by cases m <;> rfl
@[simp 3000] theorem fits_mv (s : PS) (t : Nat) (m : Option Nat) : fits1 s t (mv m) = (s.env t = some (mv m)) := by cases m <;> simp [fits1, mv]
@[simp 3000] theorem tokens_mv (t : Nat) (m : Option Nat) (l : List (Nat × SV)) : tokens ((t, mv m) :: l) = tokens l := by cases m <;> rfl

attribute [simp] pidx look allFit fits1 tokens locFit At callFits loadIn binIn faIn fieldIn ixIn buildIn pops pone pwant PS.put PS.eff PS.answer PS.start ev constSV upd_apply SV.pv? intIn boolIn strIn aggIn ptrIn Ptr.sv tupIn PV.cells partOf dstFits pbin pres presAll pres1 SV.res splice pargs takeAll plainAll RV.plain pfill prows dem SV.demote bytesOf pvIn sliceNil allPv buildRow lrowIn lrowsIn


section
variable {P : Program} {imm : TypeId → Bool} {nt : Nat} {s : PS} {K : PS → Prop} {d : Option Nat} {ty : TypeId} {pos : String} {af : Array Edge} {gd : Option (Nat × Bool)}
@[simp] theorem pop1_slice (t : TypeId) (x : Operand) (lo hi mx : Option Operand) : pop1 P imm nt s ⟨d, .slice t x lo hi mx, ty, pos, af, gd⟩ K = match pstep P imm s ⟨d, .slice t x lo hi mx, ty, pos, af, gd⟩ with | some (c, v, eff) => c ∧ dstFits nt d ∧ K ((s.eff eff).put d v) | none => False := rfl
@[simp] theorem pop1_index (t : TypeId) (x ix : Operand) : pop1 P imm nt s ⟨d, .index t x ix, ty, pos, af, gd⟩ K = match pstep P imm s ⟨d, .index t x ix, ty, pos, af, gd⟩ with | some (c, v, eff) => c ∧ dstFits nt d ∧ K ((s.eff eff).put d v) | none => False := rfl
@[simp] theorem pop1_convert (t u : TypeId) (x : Operand) : pop1 P imm nt s ⟨d, .convert t u x, ty, pos, af, gd⟩ K = match pstep P imm s ⟨d, .convert t u x, ty, pos, af, gd⟩ with | some (c, v, eff) => c ∧ dstFits nt d ∧ K ((s.eff eff).put d v) | none => False := rfl
@[simp] theorem pop1_buildSlice (t : TypeId) (n : Nat) (ps : Array (Nat × Operand)) : pop1 P imm nt s ⟨d, .buildSlice t n ps, ty, pos, af, gd⟩ K = match pstep P imm s ⟨d, .buildSlice t n ps, ty, pos, af, gd⟩ with | some (c, v, eff) => c ∧ dstFits nt d ∧ K ((s.eff eff).put d v) | none => False := rfl
@[simp] theorem pop1_builtin (b : Builtin) (args : Array Operand) (ts : Array TypeId) : pop1 P imm nt s ⟨d, .call ⟨.builtin b, args, ts⟩, ty, pos, af, gd⟩ K = match pstep P imm s ⟨d, .call ⟨.builtin b, args, ts⟩, ty, pos, af, gd⟩ with | some (c, v, eff) => c ∧ dstFits nt d ∧ K ((s.eff eff).put d v) | none => False := rfl
end
attribute [simp] pstep

end Go.Proofs.YtbekdlgkoleblaaDoor
