/- What an argument of plain data is, by its type's shape. -/
import Derived.Test.YtbekdlgkoleblaaDoorEngT
namespace Go.Proofs.YtbekdlgkoleblaaDoor

inductive Sh
  | bool
  | int (k : IntKind)
  | str
  | list (s : Sh)
  | unit
  | pair (a b : Sh)

def HasSh : Sh → List PV → Prop
  | .bool, c => ∃ b, c = [.bool b]
  | .int k, c => ∃ m, c = [.int k m] ∧ (Lit.int k m).wf = true
  | .str, c => ∃ l, c = [.str l]
  | .list s, c => ∃ xs, c = [.list xs] ∧ xs.length ≤ maxLen ∧ ∀ x ∈ xs, HasSh s x
  | .unit, c => c = []
  | .pair a b, c => ∃ x y, c = x ++ y ∧ HasSh a x ∧ HasSh b y

def shapeAll (f : TypeId → Option Sh) : List TypeId → Option Sh
  | [] => some .unit
  | t :: l => match f t, shapeAll f l with
    | some a, some b => some (.pair a b)
    | _, _ => none

def shapeOf (P : Program) : Nat → TypeId → Option Sh
  | 0, _ => none
  | n + 1, t => match P.underlying t with
    | some .bool => some .bool
    | some (.int k) => some (.int k)
    | some .string => some .str
    | some (.slice e) => match shapeOf P n e with | some s => some (.list s) | none => none
    | some (.struct fs) => shapeAll (shapeOf P n) (fs.toList.map (·.type))
    | _ => none

theorem shapeAll_has {f : TypeId → Option Sh} {R : TypeId → List PV → Prop} (hr : ∀ t s c, f t = some s → R t c → HasSh s c) : ∀ {l : List TypeId} {s : Sh} {css : List (List PV)}, shapeAll f l = some s → css.length = l.length → (∀ i (h : i < css.length) (h' : i < l.length), R l[i] css[i]) → HasSh s css.flatten
  | [], s, [], h, _, _ => by simp [shapeAll] at h; subst h; rfl
  | t :: l, s, c :: css, h, hl, hc => by
    unfold shapeAll at h
    split at h <;> first | cases h | skip
    rename_i a b ha hb
    exact ⟨c, css.flatten, rfl, hr t a c ha (hc 0 (by simp) (by simp)), shapeAll_has hr hb (by simpa using hl) fun i h h' => hc (i + 1) (Nat.succ_lt_succ h) (Nat.succ_lt_succ h')⟩
  | [], _, _ :: _, _, h, _ => by simp at h
  | _ :: _, _, [], _, h, _ => by simp at h

theorem hasSh_of {P : Program} : ∀ (n : Nat) {t : TypeId} {s : Sh} {c : List PV}, shapeOf P n t = some s → HasTy P n t c → HasSh s c
  | 0, _, _, _, h, _ => by simp [shapeOf] at h
  | n + 1, t, s, c, h, hc => by
    unfold shapeOf at h; unfold HasTy at hc
    split at h <;> first | cases h | skip
    · rename_i hu; rw [hu] at hc; exact hc
    · rename_i hu; rw [hu] at hc; exact hc
    · rename_i hu; rw [hu] at hc; exact hc
    · rename_i e hu
      rw [hu] at hc
      split at h <;> first | cases h | skip
      rename_i s' hs'
      obtain ⟨xs, h1, h2, h3⟩ := hc
      exact ⟨xs, h1, h2, fun x hx => hasSh_of n hs' (h3 x hx)⟩
    · rename_i fs hu
      rw [hu] at hc
      obtain ⟨css, rfl, h2, h3⟩ := hc
      exact shapeAll_has (R := HasTy P n) (fun t s c h hc => hasSh_of n h hc) h (by simpa using h2) fun i h h' => by
        have := h3 i h (by simpa using h')
        simpa using this

def isStruct (P : Program) (t : TypeId) : Bool := match P.underlying t with | some (.struct _) => true | _ => false

theorem arg_struct {P : Program} {n : Nat} {t : TypeId} {s : Sh} {p : PV} (h : ArgTy P n t p) (hs : shapeOf P n t = some s) (ht : isStruct P t = true) : ∃ c, p = .agg c ∧ HasSh s c := by
  obtain ⟨h1, h2⟩ := h
  unfold isStruct at ht
  split at ht <;> first | cases ht | skip
  rename_i fs hu
  rw [hu] at h2
  obtain ⟨c, rfl⟩ := h2
  exact ⟨c, rfl, hasSh_of n hs h1⟩

theorem arg_one {P : Program} {n : Nat} {t : TypeId} {s : Sh} {p : PV} (h : ArgTy P n t p) (hs : shapeOf P n t = some s) (ht : isStruct P t = false) : HasSh s [p] := by
  obtain ⟨h1, h2⟩ := h
  have h3 := hasSh_of n hs h1
  have hp : p.cells = [p] := by
    unfold isStruct at ht
    split at h2
    · rename_i hu; rw [hu] at ht; cases ht
    · cases p <;> first | rfl | cases h2
  rwa [hp] at h3

/-- A law's arguments, one by one. -/
theorem args_2 {P : Program} {n : Nat} {t u : TypeId} {ps : List PV} (h : ArgsTy P n [t, u] ps) : ∃ a b, ps = [a, b] ∧ ArgTy P n t a ∧ ArgTy P n u b := by
  match ps, h with
  | [a, b], h => exact ⟨a, b, rfl, h.1, h.2.1⟩
theorem args_1 {P : Program} {n : Nat} {t : TypeId} {ps : List PV} (h : ArgsTy P n [t] ps) : ∃ a, ps = [a] ∧ ArgTy P n t a := by
  match ps, h with
  | [a], h => exact ⟨a, rfl, h.1⟩
theorem args_3 {P : Program} {n : Nat} {t u v : TypeId} {ps : List PV} (h : ArgsTy P n [t, u, v] ps) : ∃ a b c, ps = [a, b, c] ∧ ArgTy P n t a ∧ ArgTy P n u b ∧ ArgTy P n v c := by
  match ps, h with
  | [a, b, c], h => exact ⟨a, b, c, rfl, h.1, h.2.1, h.2.2.1⟩
theorem args_4 {P : Program} {n : Nat} {t u v w : TypeId} {ps : List PV} (h : ArgsTy P n [t, u, v, w] ps) : ∃ a b c d, ps = [a, b, c, d] ∧ ArgTy P n t a ∧ ArgTy P n u b ∧ ArgTy P n v c ∧ ArgTy P n w d := by
  match ps, h with
  | [a, b, c, d], h => exact ⟨a, b, c, d, rfl, h.1, h.2.1, h.2.2.1, h.2.2.2.1⟩

theorem hasSh_int {k : IntKind} {p : PV} (h : HasSh (.int k) [p]) : ∃ m, p = .int k m ∧ (Lit.int k m).wf = true := by
  obtain ⟨m, h, w⟩ := h
  injection h with h
  exact ⟨m, h, w⟩
theorem hasSh_str {p : PV} (h : HasSh .str [p]) : ∃ m, p = .str m := by
  obtain ⟨m, h⟩ := h
  injection h with h
  exact ⟨m, h⟩
theorem hasSh_bool {p : PV} (h : HasSh .bool [p]) : ∃ m, p = .bool m := by
  obtain ⟨m, h⟩ := h
  injection h with h
  exact ⟨m, h⟩
theorem hasSh_list {s : Sh} {p : PV} (h : HasSh (.list s) [p]) : ∃ xs, p = .list xs ∧ xs.length ≤ maxLen ∧ ∀ x ∈ xs, HasSh s x := by
  obtain ⟨m, h, h2⟩ := h
  injection h with h
  exact ⟨m, h, h2⟩

end Go.Proofs.YtbekdlgkoleblaaDoor
