/- The plain law of SpanMore: with a register more. -/
import Derived.Test.YtlkkdpmloeipjaaA14
namespace Go.Proofs.Ytlkkdpmloeipjaa
open Go.RowKit Go.Proofs.YtlkkdpmloeipjaaW.PrintWords
set_option linter.unusedVariables false

def moreC (c : Code) : Code := { c with regs := c.regs + 1 }
theorem formB_more {c : Code} (h : formB c = true) (hr : c.regs < 10000) : formB (moreC c) = true := by
  simp only [formB, Bool.and_eq_true, decide_eq_true_eq] at h
  obtain ⟨h0, h1, h2, h3, h4, h5⟩ := h
  show (namedB c.name && decide (c.params.length ≤ 6) && c.params.all lenOk && decide ((wordsN c.params : Int) ≤ c.regs + 1 ∧ c.regs + 1 ≤ 10000 ∧ cellsN c.params ≤ c.cells ∧ c.cells ≤ 4096 ∧ 1 ≤ c.l.length ∧ c.l.length ≤ 10000)) = true
  simp only [Bool.and_eq_true, decide_eq_true_eq]
  exact ⟨h0, by omega, by omega, h3, h4, h5⟩
theorem bad15_more {c : Code} {x : Ir} (h : bad15 c x = false) : bad15 (moreC c) x = false := by
  rw [bad15_uses, List.any_eq_false] at *
  intro r hr
  have := h r hr
  simp only [outReg, decide_eq_true_eq] at this
  show ¬ decide (r < 0 ∨ c.regs + 1 ≤ r) = true
  rw [decide_eq_true_eq]
  omega
theorem wrongE_more {c : Code} {i : Nat} {x : Ir} (h : wrongE c i x = 0) : wrongE (moreC c) i x = 0 := by
  unfold wrongE at h ⊢
  by_cases h14 : bad14 x = true
  · rw [if_pos h14] at h; exact absurd h (by decide)
  rw [if_neg h14] at h ⊢
  by_cases h15 : bad15 c x = true
  · rw [if_pos h15] at h; exact absurd h (by decide)
  rw [if_neg h15] at h
  rw [if_neg (by rw [bad15_more (by simpa using h15)]; decide)]
  exact h
theorem scan_more {c : Code} : ∀ n i, (scan c n i).1 = 0 → (scan (moreC c) n i).1 = 0 := by
  intro n
  induction n with
  | zero => intro i _; rfl
  | succ n ih =>
    intro i h
    unfold scan at h ⊢
    show (match c.l[i]? with | none => ((0 : Int), (-1 : Int)) | some x => if wrongE (moreC c) i x = 0 then scan (moreC c) n (i + 1) else (wrongE (moreC c) i x, i)).1 = 0
    cases hx : c.l[i]? with
    | none => rfl
    | some x =>
      rw [hx] at h
      simp only at h ⊢
      by_cases he : wrongE c i x = 0
      · rw [if_pos he] at h
        rw [if_pos (wrongE_more he)]
        exact ih _ h
      · rw [if_neg he] at h
        exact absurd h he
theorem right_more {c : Code} (h : (rightE c).1 = 0) (hr : c.regs < 10000) : (rightE (moreC c)).1 = 0 := by
  have hf := (right_facts h).1
  unfold rightE at h ⊢
  rw [if_pos hf] at h
  rw [if_pos (formB_more hf hr)]
  exact scan_more _ _ h
theorem touchSp_more {words i r : Int} {sp : List Sp} (h : r.toNat < sp.length) (s : Sp) : touchSp words i (sp ++ [s]) r = touchSp words i sp r ++ [s] := by
  unfold touchSp
  rw [List.set_append_left _ _ h]
  simp [List.getD, List.getElem?_append_left h]
theorem fold_more {words i : Int} {s : Sp} : ∀ (us : List Int) (sp : List Sp), (∀ r ∈ us, r.toNat < sp.length) → us.foldl (touchSp words i) (sp ++ [s]) = us.foldl (touchSp words i) sp ++ [s]
  | [], _, _ => rfl
  | r :: us, sp, h => by
    rw [List.foldl_cons, List.foldl_cons, touchSp_more (h r (.head _))]
    exact fold_more us _ (fun q hq => by rw [touchSp_length]; exact h q (.tail _ hq))
theorem spans_more {c : Code} (h : (rightE c).1 = 0) (hr : c.regs < 10000) : spansE (moreC c) = spansE c ++ [⟨-1, -1⟩] := by
  unfold spansE
  rw [if_pos h, if_pos (right_more h hr)]
  obtain ⟨hf, hw⟩ := right_facts h
  have h0 : 0 ≤ c.regs := by have := (formB_cells hf).2.2.1; omega
  have key : ∀ k, spansTo (moreC c) k = spansTo c k ++ [⟨-1, -1⟩] := by
    intro k
    induction k with
    | zero =>
      show List.replicate (c.regs + 1).toNat _ = _
      rw [show (c.regs + 1).toNat = c.regs.toNat + 1 by omega, List.replicate_succ']
      rfl
    | succ k ih =>
      unfold spansTo
      show (match c.l[k]? with | some x => (usesL x).foldl (touchSp (wordsN c.params : Nat) (k : Nat)) (spansTo (moreC c) k) | none => spansTo (moreC c) k) = _
      cases hx : c.l[k]? with
      | none => exact ih
      | some x =>
        simp only
        rw [ih]
        exact fold_more _ _ (fun r hr' => by rw [spansTo_length]; have := wrong_uses (hw k x hx) r hr'; omega)
  exact key _
end Go.Proofs.Ytlkkdpmloeipjaa
