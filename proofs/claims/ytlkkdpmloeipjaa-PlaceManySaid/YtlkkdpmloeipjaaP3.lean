/- The plain law of SpanTells: the spans, by definition. -/
import Derived.Test.YtlkkdpmloeipjaaA14
namespace Go.Proofs.Ytlkkdpmloeipjaa
open Go.RowKit Go.Proofs.YtlkkdpmloeipjaaW.PrintWords
set_option linter.unusedVariables false

/-- Does an instruction touch a register? -/
def touchB (x : Ir) (r : Int) : Bool := (readsL x).any (fun a => a == r) || (writesB x && x.d == r)
theorem touchB_iff {x : Ir} {r : Int} : touchB x r = true ↔ r ∈ usesL x := by
  unfold touchB usesL
  rw [Bool.or_eq_true, List.any_eq_true, List.mem_append]
  constructor
  · rintro (⟨a, ha, he⟩ | h)
    · left; rw [← beq_iff_eq.1 he]; exact ha
    · right
      rw [Bool.and_eq_true] at h
      rw [if_pos h.1, beq_iff_eq.1 h.2]
      exact List.mem_singleton.2 rfl
  · rintro (h | h)
    · left; exact ⟨r, h, by simp⟩
    · right
      by_cases hw : writesB x = true
      · rw [if_pos hw] at h
        rw [List.mem_singleton.1 h, hw]; simp
      · rw [if_neg hw] at h
        cases h
def touchAt (c : Code) (r : Nat) (i : Nat) : Bool := match c.l[i]? with | some x => touchB x r | none => false
theorem touchAt_some {c : Code} {r i : Nat} {x : Ir} (h : c.l[i]? = some x) : touchAt c r i = touchB x r := by unfold touchAt; rw [h]
/-- The span of what a test says true of between a and b. -/
def IsSpan (t : Nat → Bool) (a b : Nat) (s : Sp) : Prop :=
  ((∀ i, a ≤ i → i < b → t i = false) ∧ s = ⟨-1, -1⟩) ∨
  ∃ i j : Nat, a ≤ i ∧ i ≤ j ∧ j < b ∧ t i = true ∧ t j = true ∧ (∀ k, a ≤ k → k < i → t k = false) ∧ (∀ k, j < k → k < b → t k = false) ∧ s = ⟨(i : Int), (j : Int)⟩
theorem IsSpan.unique {t : Nat → Bool} {a b : Nat} {s s' : Sp} (h : IsSpan t a b s) (h' : IsSpan t a b s') : s = s' := by
  rcases h with ⟨h, rfl⟩ | ⟨i, j, h1, h2, h3, h4, h5, h6, h7, rfl⟩ <;> rcases h' with ⟨g, rfl⟩ | ⟨i', j', g1, g2, g3, g4, g5, g6, g7, rfl⟩
  · rfl
  · have := h i' g1 (by omega); rw [g4] at this; cases this
  · have := g i h1 (by omega); rw [h4] at this; cases this
  · have e1 : i = i' := by
      rcases Nat.lt_trichotomy i i' with h | h | h
      · have := g6 i h1 h; rw [h4] at this; cases this
      · exact h
      · have := h6 i' g1 h; rw [g4] at this; cases this
    have e2 : j = j' := by
      rcases Nat.lt_trichotomy j j' with h | h | h
      · have := h7 j' h g3; rw [g5] at this; cases this
      · exact h
      · have := g7 j h h3; rw [h5] at this; cases this
    rw [e1, e2]
theorem IsSpan.up {t : Nat → Bool} {k : Nat} {s : Sp} (h : IsSpan t 0 k s) : IsSpan t 0 (k + 1) (if t k = true then ⟨if s.hi < 0 then k else s.lo, k⟩ else s) := by
  by_cases ht : t k = true
  · rw [if_pos ht]
    rcases h with ⟨h, rfl⟩ | ⟨i, j, h1, h2, h3, h4, h5, h6, h7, rfl⟩
    · refine .inr ⟨k, k, by omega, by omega, by omega, ht, ht, fun q q1 q2 => h q q1 q2, fun q q1 q2 => by omega, ?_⟩
      simp
    · refine .inr ⟨i, k, h1, by omega, by omega, h4, ht, h6, fun q q1 q2 => by omega, ?_⟩
      simp only
      rw [if_neg (by omega)]
  · rw [if_neg ht]
    have hf : t k = false := by simpa using ht
    rcases h with ⟨h, rfl⟩ | ⟨i, j, h1, h2, h3, h4, h5, h6, h7, rfl⟩
    · refine .inl ⟨fun q q1 q2 => ?_, rfl⟩
      by_cases e : q = k
      · rw [e]; exact hf
      · exact h q q1 (by omega)
    · refine .inr ⟨i, j, h1, h2, by omega, h4, h5, h6, fun q q1 q2 => ?_, rfl⟩
      by_cases e : q = k
      · rw [e]; exact hf
      · exact h7 q q1 (by omega)
theorem IsSpan.down {t : Nat → Bool} {a b : Nat} {s : Sp} (hab : a < b) (h : IsSpan t (a + 1) b s) : IsSpan t a b (if t a = true then ⟨a, max s.hi a⟩ else s) := by
  by_cases ht : t a = true
  · rw [if_pos ht]
    rcases h with ⟨h, rfl⟩ | ⟨i, j, h1, h2, h3, h4, h5, h6, h7, rfl⟩
    · refine .inr ⟨a, a, by omega, by omega, by omega, ht, ht, fun q q1 q2 => by omega, fun q q1 q2 => h q (by omega) q2, ?_⟩
      show (⟨(a : Int), max (-1) (a : Int)⟩ : Sp) = _
      rw [Int.max_eq_right (by omega)]
    · refine .inr ⟨a, j, by omega, by omega, by omega, ht, h5, fun q q1 q2 => by omega, h7, ?_⟩
      show (⟨(a : Int), max (j : Int) (a : Int)⟩ : Sp) = _
      rw [Int.max_eq_left (by omega)]
  · rw [if_neg ht]
    have hf : t a = false := by simpa using ht
    rcases h with ⟨h, rfl⟩ | ⟨i, j, h1, h2, h3, h4, h5, h6, h7, rfl⟩
    · refine .inl ⟨fun q q1 q2 => ?_, rfl⟩
      by_cases e : q = a
      · rw [e]; exact hf
      · exact h q (by omega) q2
    · refine .inr ⟨i, j, by omega, h2, h3, h4, h5, fun q q1 q2 => ?_, h7, rfl⟩
      by_cases e : q = a
      · rw [e]; exact hf
      · exact h6 q (by omega) q2

/-- A register's span, from the last instruction down, behind j instructions. -/
def backTo (c : Code) (r : Nat) : Nat → Sp
  | 0 => ⟨-1, -1⟩
  | j + 1 => if touchAt c r (c.l.length - (j + 1)) = true then ⟨(c.l.length - (j + 1) : Nat), max (backTo c r j).hi (c.l.length - (j + 1) : Nat)⟩ else backTo c r j
theorem back_is (c : Code) (r : Nat) : ∀ j, j ≤ c.l.length → IsSpan (touchAt c r) (c.l.length - j) c.l.length (backTo c r j) := by
  intro j
  induction j with
  | zero => intro _; exact .inl ⟨fun i h1 h2 => by omega, rfl⟩
  | succ j ih =>
    intro hj
    have h := ih (by omega)
    rw [show c.l.length - j = c.l.length - (j + 1) + 1 by omega] at h
    exact h.down (by omega)
/-- A register's span, by definition. -/
def refSp (c : Code) (r : Nat) : Sp := if r < wordsN c.params then ⟨-1, (backTo c r c.l.length).hi⟩ else backTo c r c.l.length
def rspansE (c : Code) : List Sp := if (rightE c).1 = 0 then (List.range c.regs.toNat).map (refSp c) else []

theorem touchS_twice {words i r : Int} {s : Sp} (h : 0 ≤ i) : touchS words i (touchS words i s r) r = touchS words i s r := by
  unfold touchS
  simp only
  rw [if_neg (by omega)]
theorem fold_at {words i : Int} (hi : 0 ≤ i) (r : Nat) : ∀ (us : List Int) (sp : List Sp) (s : Sp), sp[r]? = some s → (∀ u ∈ us, 0 ≤ u) →
    (us.foldl (touchSp words i) sp)[r]? = some (if (r : Int) ∈ us then touchS words i s r else s) := by
  intro us
  induction us with
  | nil => intro sp s h _; simpa using h
  | cons u us ih =>
    intro sp s h hu
    rw [List.foldl_cons]
    have hlt := (List.getElem?_eq_some_iff.1 h).1
    have hu0 := hu u (.head _)
    by_cases e : u = (r : Int)
    · subst e
      have h1 : (touchSp words i sp (r : Int))[r]? = some (touchS words i s r) := by
        unfold touchSp
        rw [show ((r : Int)).toNat = r by omega, List.getElem?_set_self hlt]
        simp [List.getD, h]
      rw [ih _ _ h1 (fun q hq => hu q (.tail _ hq))]
      simp only [List.mem_cons, true_or, if_true]
      split
      · rw [touchS_twice hi]
      · rfl
    · have h1 : (touchSp words i sp u)[r]? = some s := by
        unfold touchSp
        rw [List.getElem?_set_ne (by omega)]
        exact h
      rw [ih _ _ h1 (fun q hq => hu q (.tail _ hq))]
      have : ((r : Int) ∈ u :: us) ↔ (r : Int) ∈ us := by
        rw [List.mem_cons]
        exact ⟨fun h => h.resolve_left (fun h => e h.symm), .inr⟩
      simp only [this]
/-- A register's span behind k instructions, and what it is in the row. -/
theorem fwd_is {c : Code} (hw : ∀ k x, c.l[k]? = some x → wrongE c k x = 0) {r : Nat} (hr : r < c.regs.toNat) : ∀ k, k ≤ c.l.length →
    ∃ s, IsSpan (touchAt c r) 0 k s ∧ (spansTo c k)[r]? = some (if r < wordsN c.params then ⟨-1, s.hi⟩ else s) := by
  intro k
  induction k with
  | zero =>
    intro _
    refine ⟨⟨-1, -1⟩, .inl ⟨fun i h1 h2 => by omega, rfl⟩, ?_⟩
    show (List.replicate c.regs.toNat (⟨-1, -1⟩ : Sp))[r]? = _
    rw [List.getElem?_replicate, if_pos hr]
    split <;> rfl
  | succ k ih =>
    intro hk
    obtain ⟨s, h1, h2⟩ := ih (by omega)
    obtain ⟨x, hx⟩ : ∃ x, c.l[k]? = some x := ⟨_, List.getElem?_eq_getElem (by omega)⟩
    refine ⟨_, h1.up, ?_⟩
    rw [spansTo_succ hx, fold_at (by omega) r _ _ _ h2 (fun u hu => (wrong_uses (hw k x hx) u hu).1)]
    congr 1
    have ht : (touchAt c r k = true) ↔ (r : Int) ∈ usesL x := by rw [touchAt_some hx, touchB_iff]
    by_cases hm : (r : Int) ∈ usesL x
    · rw [if_pos hm, if_pos (ht.2 hm)]
      by_cases hwd : r < wordsN c.params
      · rw [if_pos hwd, if_pos hwd]
        unfold touchS
        simp only
        rw [if_neg (by omega)]
      · rw [if_neg hwd, if_neg hwd]
        unfold touchS
        have : ((wordsN c.params : Nat) : Int) ≤ (r : Int) := by omega
        simp only [this, and_true]
    · rw [if_neg hm, if_neg (fun h => hm (ht.1 h))]
theorem spans_ref (c : Code) : spansE c = rspansE c := by
  unfold spansE rspansE
  by_cases h : (rightE c).1 = 0
  · rw [if_pos h, if_pos h]
    obtain ⟨hf, hw⟩ := right_facts h
    apply List.ext_getElem?
    intro r
    by_cases hr : r < c.regs.toNat
    · obtain ⟨s, h1, h2⟩ := fwd_is hw hr c.l.length (Nat.le_refl _)
      have h3 := back_is c r c.l.length (Nat.le_refl _)
      rw [Nat.sub_self] at h3
      obtain rfl := h1.unique h3
      rw [h2, List.getElem?_map, List.getElem?_range hr]
      rfl
    · rw [List.getElem?_eq_none (by rw [spansTo_length]; omega), List.getElem?_eq_none (by simp; omega)]
  · rw [if_neg h, if_neg h]
end Go.Proofs.Ytlkkdpmloeipjaa
