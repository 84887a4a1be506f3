/- The plain law of SpanWithin: within its span, and at its ends. -/
import Derived.Test.YtlkkdpmloeipjaaP3
namespace Go.Proofs.Ytlkkdpmloeipjaa
open Go.RowKit Go.Proofs.YtlkkdpmloeipjaaW.PrintWords
set_option linter.unusedVariables false

/-- What the law asks of a register's span. -/
theorem span_facts {c : Code} (h : (rightE c).1 = 0) {r : Nat} (hr : r < c.regs.toNat) : ∃ s, (spansE c)[r]? = some s ∧ s.lo ≤ s.hi ∧
    (∀ (i : Nat) (x : Ir), c.l[i]? = some x → (r : Int) ∈ usesL x → s.lo ≤ i ∧ (i : Int) ≤ s.hi) ∧
    (0 ≤ s.lo → ∃ x, c.l[s.lo.toNat]? = some x ∧ (r : Int) ∈ usesL x) ∧ (0 ≤ s.hi → ∃ x, c.l[s.hi.toNat]? = some x ∧ (r : Int) ∈ usesL x) := by
  obtain ⟨hf, hw⟩ := right_facts h
  obtain ⟨s, h1, h2⟩ := fwd_is hw hr c.l.length (Nat.le_refl _)
  have hE : (spansE c)[r]? = some (if r < wordsN c.params then ⟨-1, s.hi⟩ else s) := by unfold spansE; rw [if_pos h]; exact h2
  have key : ∀ i, touchAt c r i = true → ∃ x, c.l[i]? = some x ∧ (r : Int) ∈ usesL x := fun i ht => by
    unfold touchAt at ht
    cases hx : c.l[i]? with
    | none => rw [hx] at ht; cases ht
    | some x => rw [hx] at ht; exact ⟨x, rfl, touchB_iff.1 ht⟩
  have keyr : ∀ i x, c.l[i]? = some x → (r : Int) ∈ usesL x → touchAt c r i = true := fun i x hx hm => by rw [touchAt_some hx]; exact touchB_iff.2 hm
  refine ⟨_, hE, ?_⟩
  rcases h1 with ⟨h1, rfl⟩ | ⟨a, b, _, hab, hb, ta, tb, fa, fb, rfl⟩
  · refine ⟨by split <;> simp, fun i x hx hm => ?_, fun h0 => ?_, fun h0 => ?_⟩
    · have := h1 i (Nat.zero_le _) (List.getElem?_eq_some_iff.1 hx).1
      rw [keyr i x hx hm] at this; cases this
    · exfalso; revert h0; split <;> simp
    · exfalso; revert h0; split <;> simp
  · have hin : ∀ (i : Nat) (x : Ir), c.l[i]? = some x → (r : Int) ∈ usesL x → a ≤ i ∧ i ≤ b := fun i x hx hm => by
      have ht := keyr i x hx hm
      constructor
      · rcases Nat.lt_or_ge i a with hlt | hge
        · rw [fa i (Nat.zero_le _) hlt] at ht; cases ht
        · exact hge
      · rcases Nat.lt_or_ge b i with hlt | hge
        · rw [fb i hlt (List.getElem?_eq_some_iff.1 hx).1] at ht; cases ht
        · exact hge
    by_cases hwd : r < wordsN c.params
    · simp only [if_pos hwd]
      refine ⟨by omega, fun i x hx hm => by have := hin i x hx hm; omega, fun h0 => by omega, fun _ => ?_⟩
      simpa using key b tb
    · simp only [if_neg hwd]
      refine ⟨by omega, fun i x hx hm => by have := hin i x hx hm; omega, fun _ => ?_, fun _ => ?_⟩
      · simpa using key a ta
      · simpa using key b tb

/-- What a use at a place makes of the marks. -/
def mk1 (sel : Sp → Int) (E : List Sp) (i : Int) (F : List Bool) (r : Int) : List Bool := F.set r.toNat (F.getD r.toNat false || i == sel (E.getD r.toNat zSp))
def mkTo (sel : Sp → Int) (E : List Sp) (c : Code) : Nat → List Bool
  | 0 => List.replicate c.regs.toNat false
  | k + 1 => match c.l[k]? with
    | some x => (usesL x).foldl (mk1 sel E (k : Nat)) (mkTo sel E c k)
    | none => mkTo sel E c k
section
variable {sel : Sp → Int} {E : List Sp} {c : Code}
theorem mk1_length (i : Int) (F : List Bool) (r : Int) : (mk1 sel E i F r).length = F.length := by simp [mk1]
theorem mkf_length (i : Int) : ∀ (us : List Int) (F : List Bool), (us.foldl (mk1 sel E i) F).length = F.length
  | [], _ => rfl
  | r :: us, F => by rw [List.foldl_cons, mkf_length i us, mk1_length]
theorem mkTo_length (k : Nat) : (mkTo sel E c k).length = c.regs.toNat := by
  induction k with
  | zero => simp [mkTo]
  | succ k ih =>
    unfold mkTo
    split
    · rw [mkf_length, ih]
    · exact ih
theorem mkTo_succ {k : Nat} {x : Ir} (h : c.l[k]? = some x) : mkTo sel E c (k + 1) = (usesL x).foldl (mk1 sel E (k : Nat)) (mkTo sel E c k) := by
  conv => lhs; unfold mkTo
  rw [h]
theorem mk1_keep {i : Int} {F : List Bool} {r : Int} {q : Nat} (h : F[q]? = some true) : (mk1 sel E i F r)[q]? = some true := by
  unfold mk1
  have hlt := (List.getElem?_eq_some_iff.1 h).1
  by_cases e : r.toNat = q
  · rw [e, List.getElem?_set_self hlt]
    simp [List.getD, h]
  · rw [List.getElem?_set_ne e]; exact h
theorem mkf_keep {i : Int} {q : Nat} : ∀ (us : List Int) (F : List Bool), F[q]? = some true → (us.foldl (mk1 sel E i) F)[q]? = some true
  | [], _, h => h
  | r :: us, F, h => by rw [List.foldl_cons]; exact mkf_keep us _ (mk1_keep h)
theorem mkf_hit {i : Int} {q : Nat} {s : Sp} (hs : E[q]? = some s) (hi : i = sel s) : ∀ (us : List Int) (F : List Bool), q < F.length → (q : Int) ∈ us → (us.foldl (mk1 sel E i) F)[q]? = some true
  | [], _, _, hm => by cases hm
  | r :: us, F, hl, hm => by
    rw [List.foldl_cons]
    rcases List.mem_cons.1 hm with e | hm
    · refine mkf_keep us _ ?_
      unfold mk1
      rw [← e, show ((q : Int)).toNat = q by omega, List.getElem?_set_self hl]
      simp [List.getD, hs, hi]
    · exact mkf_hit hs hi us _ (by rw [mk1_length]; exact hl) hm
theorem mkTo_keep {k n q : Nat} (h : (mkTo sel E c k)[q]? = some true) (hk : k ≤ n) : (mkTo sel E c n)[q]? = some true := by
  obtain ⟨d, rfl⟩ := Nat.exists_eq_add_of_le hk
  clear hk
  induction d with
  | zero => exact h
  | succ d ih =>
    show (mkTo sel E c (k + d + 1))[q]? = _
    unfold mkTo
    split
    · exact mkf_keep _ _ ih
    · exact ih
theorem mkTo_hit {q i : Nat} {s : Sp} {x : Ir} (hq : q < c.regs.toNat) (hs : E[q]? = some s) (hi : (i : Int) = sel s) (hx : c.l[i]? = some x) (hm : (q : Int) ∈ usesL x) : (mkTo sel E c c.l.length)[q]? = some true := by
  refine mkTo_keep (k := i + 1) ?_ (List.getElem?_eq_some_iff.1 hx).1
  rw [mkTo_succ hx]
  exact mkf_hit hs hi _ _ (by rw [mkTo_length]; exact hq) hm
end
/-- At the end both ends of a span are marked. -/
theorem marks_end {c : Code} (h : (rightE c).1 = 0) {r : Nat} {s : Sp} (hr : r < c.regs.toNat) (hs : (spansE c)[r]? = some s) :
    (0 ≤ s.lo → (mkTo Sp.lo (spansE c) c c.l.length)[r]? = some true) ∧ (0 ≤ s.hi → (mkTo Sp.hi (spansE c) c c.l.length)[r]? = some true) := by
  obtain ⟨s', h1, _, _, h3, h4⟩ := span_facts h hr
  rw [hs] at h1
  obtain rfl := Option.some.inj h1
  constructor
  · intro h0
    obtain ⟨x, hx, hm⟩ := h3 h0
    exact mkTo_hit hr hs (by omega) hx hm
  · intro h0
    obtain ⟨x, hx, hm⟩ := h4 h0
    exact mkTo_hit hr hs (by omega) hx hm
end Go.Proofs.Ytlkkdpmloeipjaa
