/- Regions that draw their order (3): whatever the order. -/
import Derived.Test.YtbekdlgkoleblaaDoorEngO
namespace Go.Proofs.YtbekdlgkoleblaaDoor

section
variable {P : Program} {imm : TypeId → Bool} {ops : Array Oper}

/-- What is left, in the text's order. -/
def leftOf (ops : Array Oper) (listed : Array Bool) : List Nat := (List.range ops.size).filter fun i => !listed.getD i true
def operOf (ops : Array Oper) (i : Nat) : List Oper := (ops[i]?).toList
def leftOps (ops : Array Oper) (listed : Array Bool) : List Oper := (leftOf ops listed).flatMap (operOf ops)

structure DrawFacts (imm : TypeId → Bool) (ops : Array Oper) (B : Array Nat) : Prop where
  back : ∀ (j : Nat) (oj : Oper), ops[j]? = some oj → ∀ e ∈ oj.after, Region.binds .any e = true → e.on < j
  way : ∀ (i j : Nat) (oi oj : Oper), i < j → ops[i]? = some oi → ops[j]? = some oj →
    ((B.getD j 0).testBit i = true ∧ ∃ e ∈ oj.after, Region.binds .any e = true ∧ (e.on = i ∨ (i < e.on ∧ (B.getD e.on 0).testBit i = true))) ∨ ((B.getD j 0).testBit i = false ∧ freeOps imm ops oi oj = true)

theorem drawFacts {B : Array Nat} (h : drawOkBy imm ops B = true) : DrawFacts imm ops B := by
  have hall : ∀ (j : Nat) (oj : Oper), ops[j]? = some oj → drawBack j oj = true ∧ (List.range j).all (drawPair imm ops B j oj) = true := by
    intro j oj hj
    have hlt := (Array.getElem?_eq_some_iff.1 hj).1
    have := List.all_eq_true.1 h j (List.mem_range.2 hlt)
    unfold drawAt at this
    rw [hj] at this
    simpa only [Bool.and_eq_true] using this
  refine ⟨fun j oj hj e he hb => ?_, fun i j oi oj hij hi hj => ?_⟩
  · have := List.all_eq_true.1 (hall j oj hj).1 e (by simpa using he)
    simpa [hb] using this
  · have := List.all_eq_true.1 (hall j oj hj).2 i (List.mem_range.2 hij)
    unfold drawPair at this
    rw [hi] at this
    simp only [] at this
    split at this
    · rename_i hb
      obtain ⟨e, he, h2⟩ := List.any_eq_true.1 this
      simp only [Bool.and_eq_true, Bool.or_eq_true, beq_iff_eq, decide_eq_true_eq] at h2
      exact .inl ⟨hb, e, by simpa using he, h2.1, h2.2⟩
    · rename_i hb
      exact .inr ⟨by simpa using hb, this⟩

/-- Listed with all that is ahead. -/
def DownTo (ops : Array Oper) (listed : Array Bool) : Prop :=
  ∀ (j : Nat) (oj : Oper), ops[j]? = some oj → listed.getD j true = true → ∀ e ∈ oj.after, Region.binds .any e = true → listed.getD e.on false = true

theorem getD_ft {listed : Array Bool} {i : Nat} (h : i < listed.size) (d d' : Bool) : listed.getD i d = listed.getD i d' := by simp [h]

theorem listed_of_bit {B : Array Nat} (hf : DrawFacts imm ops B) {listed : Array Bool} (hsz : listed.size = ops.size) (hd : DownTo ops listed) :
    ∀ (n j i : Nat) (oj : Oper), j ≤ n → i < ops.size → i < j → ops[j]? = some oj → (∀ e ∈ oj.after, Region.binds .any e = true → listed.getD e.on false = true) → (B.getD j 0).testBit i = true → listed.getD i true = true := by
  intro n
  induction n with
  | zero => intro j i oj hn hi hij; omega
  | succ n ih =>
    intro j i oj hn hi hij hj hall hbit
    obtain ⟨oi, hoi⟩ : ∃ oi, ops[i]? = some oi := ⟨ops[i], by simp [hi]⟩
    rcases hf.way i j oi oj hij hoi hj with ⟨_, e, he, hb, h2⟩ | ⟨h1, _⟩
    · have hl := hall e he hb
      have hlt := hf.back j oj hj e he hb
      rcases h2 with h2 | h2
      · rw [← h2]; rw [getD_ft (by rw [hsz]; have := (Array.getElem?_eq_some_iff.1 hj).1; omega) true false]; exact hl
      · have hje : e.on < ops.size := by have := (Array.getElem?_eq_some_iff.1 hj).1; omega
        refine ih e.on i ops[e.on] (by omega) hi h2.1 (by simp [hje]) (fun e' he' hb' => ?_) h2.2
        exact hd e.on _ (by simp [hje]) (by rw [getD_ft (by omega) true false]; exact hl) e' he' hb'
    · rw [h1] at hbit; cases hbit

theorem leftOf_split {listed : Array Bool} {i : Nat} (hi : i < ops.size) (hl : listed.getD i true = false) :
    ∃ l1 l2, leftOf ops listed = l1 ++ i :: l2 ∧ (∀ k ∈ l1, k < i ∧ listed.getD k true = false) ∧ leftOf ops (listed.setIfInBounds i true) = l1 ++ l2 := by
  have hlt : i < listed.size := by
    rcases Nat.lt_or_ge i listed.size with h | h
    · exact h
    · simp [h] at hl
  have hr : List.range ops.size = List.range i ++ i :: (List.range' (i + 1) (ops.size - (i + 1))) := by
    rw [List.range_eq_range', List.range_eq_range', show ops.size = i + (1 + (ops.size - (i + 1))) by omega, ← List.range'_append_1, show i + (1 + (ops.size - (i + 1))) - (i + 1) = ops.size - (i + 1) by omega]
    congr 1
    rw [Nat.zero_add, show 1 + (ops.size - (i + 1)) = (ops.size - (i + 1)) + 1 by omega, List.range'_succ]
  have hset : ∀ k, k ≠ i → (listed.setIfInBounds i true).getD k true = listed.getD k true := fun k hk => getD_set_ne true (Ne.symm hk)
  refine ⟨(List.range i).filter fun k => !listed.getD k true, (List.range' (i + 1) (ops.size - (i + 1))).filter fun k => !listed.getD k true, ?_, fun k hk => ?_, ?_⟩
  · unfold leftOf
    rw [hr, List.filter_append, List.filter_cons_of_pos (by simp [hl])]
  · obtain ⟨h1, h2⟩ := List.mem_filter.1 hk
    exact ⟨List.mem_range.1 h1, by simpa using h2⟩
  · unfold leftOf
    rw [hr, List.filter_append, List.filter_cons_of_neg (by simp [hlt])]
    congr 1
    · refine List.filter_congr fun k hk => ?_
      rw [hset k (by have := List.mem_range.1 hk; omega)]
    · refine List.filter_congr fun k hk => ?_
      rw [hset k (by have := (List.mem_range'_1.1 hk).1; omega)]

theorem downTo_set {listed : Array Bool} {i : Nat} {oi : Oper} (hd : DownTo ops listed) (hi : ops[i]? = some oi) (hall : ∀ e ∈ oi.after, Region.binds .any e = true → listed.getD e.on false = true) (_hsz : listed.size = ops.size) : DownTo ops (listed.setIfInBounds i true) := by
  intro j oj hj hl e he hb
  refine getD_set_true ?_
  by_cases hij : i = j
  · subst hij; rw [hi] at hj; injection hj with hj; subst hj; exact hall e he hb
  · rw [getD_set_ne true hij] at hl
    exact hd j oj hj hl e he hb

theorem any_ok {F : Fr} {B : Array Nat} (hf : DrawFacts imm ops B) {Q : Exit → Act → World → Prop} {K : PS → Prop} (hQ : ∀ a w, Sees F K a w → Q .normal a w) :
    ∀ (fuel : Nat) (listed : Array Bool) (s : PS) (g : Gh) (a : Act) (w : World), listed.size = ops.size → DownTo ops listed → (leftOf ops listed).length ≤ fuel → Inv F g s a w → pops P imm F.nt ops (leftOps ops listed) s K →
    wpAny P .any ops Q fuel listed a w := by
  have hnil : ∀ (listed : Array Bool), listed.size = ops.size → Region.ready .any ops listed = [] → leftOf ops listed = [] := by
    intro listed hsz hr
    apply Classical.byContradiction
    intro hne
    -- the first one that is left is ready
    have hex : ∃ n, n < ops.size ∧ listed.getD n true = false := by
      obtain ⟨k, hk⟩ := List.exists_mem_of_ne_nil _ hne
      obtain ⟨h1, h2⟩ := List.mem_filter.1 hk
      exact ⟨k, List.mem_range.1 h1, by simpa using h2⟩
    have hmin : ∃ n, n < ops.size ∧ listed.getD n true = false ∧ ∀ m, m < n → listed.getD m true = true := by
      obtain ⟨n, h1, h2⟩ := hex
      induction n using Nat.strongRecOn with
      | _ n ih =>
        by_cases hall : ∀ m, m < n → listed.getD m true = true
        · exact ⟨n, h1, h2, hall⟩
        · simp only [Classical.not_forall] at hall
          obtain ⟨m, hm, h3⟩ := hall
          exact ih m hm (by omega) (by simpa using h3)
    obtain ⟨n, h1, h2, h3⟩ := hmin
    have hready : n ∈ Region.ready .any ops listed := mem_ready.2 ⟨h2, ops[n], by simp [h1], fun e he hb => by
      have hlt := hf.back n ops[n] (by simp [h1]) e he hb
      rw [getD_ft (by omega) false true]; exact h3 _ hlt⟩
    rw [hr] at hready; cases hready
  intro fuel
  induction fuel with
  | zero =>
    intro listed s g a w hsz hd hlen hi hp
    have h0 : leftOf ops listed = [] := List.eq_nil_of_length_eq_zero (by omega)
    refine ⟨?_, ?_⟩
    · unfold Region.ready
      refine List.filter_eq_nil_iff.2 fun k hk => ?_
      have h1 : listed.getD k true = true := by
        cases hc : listed.getD k true with
        | true => rfl
        | false =>
          have : k ∈ leftOf ops listed := List.mem_filter.2 ⟨hk, by simp only [hc, Bool.not_false]⟩
          rw [h0] at this; cases this
      simp only [h1, Bool.not_true, Bool.false_and, Bool.false_eq_true, not_false_eq_true]
    · unfold leftOps at hp; rw [h0] at hp
      exact hQ a w ⟨s, g, hi, hp⟩
  | succ fuel ih =>
    intro listed s g a w hsz hd hlen hi hp
    refine ⟨fun hr => ?_, fun i hir => ?_⟩
    · have h0 := hnil listed hsz hr
      unfold leftOps at hp; rw [h0] at hp
      exact hQ a w ⟨s, g, hi, hp⟩
    · obtain ⟨hun, oi, hoi, hall⟩ := mem_ready.1 hir
      have hilt := (Array.getElem?_eq_some_iff.1 hoi).1
      obtain ⟨l1, l2, e1, e2, e3⟩ := leftOf_split hilt hun
      have hfree : ∀ x ∈ l1.flatMap (operOf ops), freeOps imm ops x oi = true := by
        intro x hx
        obtain ⟨k, hk, hxk⟩ := List.mem_flatMap.1 hx
        obtain ⟨hki, hku⟩ := e2 k hk
        have hxk' : ops[k]? = some x := by simpa [operOf] using hxk
        rcases hf.way k i x oi hki hxk' hoi with ⟨hb, _⟩ | ⟨_, h⟩
        · have := listed_of_bit hf hsz hd i i k oi (Nat.le_refl _) (by omega) hki hoi hall hb
          rw [hku] at this; cases this
        · exact h
      have hops : leftOps ops listed = l1.flatMap (operOf ops) ++ oi :: l2.flatMap (operOf ops) := by
        unfold leftOps; rw [e1, List.flatMap_append, List.flatMap_cons]
        have : operOf ops i = [oi] := by simp [operOf, hoi]
        rw [this]; rfl
      have hops' : leftOps ops (listed.setIfInBounds i true) = l1.flatMap (operOf ops) ++ l2.flatMap (operOf ops) := by
        unfold leftOps; rw [e3, List.flatMap_append]
      rw [hops] at hp
      have hone := pops_pick hi hfree hp
      have hnext : ∀ s' g' a' w', Inv F g' s' a' w' → pops P imm F.nt ops (l1.flatMap (operOf ops) ++ l2.flatMap (operOf ops)) s' K → wpAny P .any ops Q fuel (listed.setIfInBounds i true) a' w' := by
        intro s' g' a' w' hi' hp'
        refine ih _ s' g' a' w' (by simpa using hsz) (downTo_set hd hoi hall hsz) ?_ hi' (by rw [hops']; exact hp')
        rw [e3]; rw [e1] at hlen; simp at hlen ⊢; omega
      unfold wpOp
      simp only [hoi]
      unfold pone at hone
      split at hone
      · rename_i hw
        rw [if_pos (pwant_ok hi hw)]
        refine .inl (Oper.wp_mono (fun a' w' hs => ?_) (pop1_ok (Q := Q) hi hone))
        obtain ⟨s', g', hi', hk⟩ := hs
        exact hnext s' g' a' w' hi' hk
      · rename_i hw
        rw [if_neg (by rw [pwant_ok hi hw]; simp)]
        exact hnext _ g _ _ (hi.put hone.1 .undef) hone.2
      · exact hone.elim

theorem region_ok {F : Fr} {id : Nat} {Q : Exit → Act → World → Prop} {K : PS → Prop} {g : Gh} {s : PS} {a : Act} {w : World} (h : Inv F g s a w) (hdraw : drawOk imm ops = true) (hm : P.follows .mixedOrders = true) (hp : pops P imm F.nt ops ops.toList s K)
    (hQ : ∀ a w, Sees F K a w → Q .normal a w) : (Code.region id ops true).wp P Q a w := by
  refine wp_region_any hm ?_
  have h0 : leftOf ops (Array.replicate ops.size false) = List.range ops.size := by
    unfold leftOf
    refine List.filter_eq_self.2 fun k hk => ?_
    have := List.mem_range.1 hk
    simp [this]
  refine any_ok (drawFacts hdraw) hQ ops.size _ s g a _ (by simp) (fun j oj hj hl => ?_) (by rw [h0]; simp) h.drew ?_
  · have := (Array.getElem?_eq_some_iff.1 hj).1
    simp [this] at hl
  · have : leftOps ops (Array.replicate ops.size false) = ops.toList := by
      unfold leftOps
      rw [h0]
      apply List.ext_getElem?
      intro k
      have key : ∀ (n : Nat), n ≤ ops.size → (List.range n).flatMap (operOf ops) = ops.toList.take n := by
        intro n
        induction n with
        | zero => intro _; simp
        | succ n ih =>
          intro hn
          rw [List.range_succ, List.flatMap_append, ih (by omega), List.take_succ_eq_append_getElem (by simp; omega)]
          have : n < ops.size := by omega
          simp [operOf, this]
      rw [key ops.size (Nat.le_refl _), List.take_of_length_le (by simp)]
    rw [this]; exact hp

end
end Go.Proofs.YtbekdlgkoleblaaDoor
