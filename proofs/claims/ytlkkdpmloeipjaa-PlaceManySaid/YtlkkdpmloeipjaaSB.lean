/- How great a span's ends may be. -/
import Derived.Test.YtlkkdpmloeipjaaP3
namespace Go.Proofs.Ytlkkdpmloeipjaa
open Go.RowKit Go.Proofs.YtlkkdpmloeipjaaW.PrintWords
set_option linter.unusedVariables false

theorem IsSpan.bounds {t : Nat → Bool} {b : Nat} {s : Sp} (h : IsSpan t 0 b s) : -1 ≤ s.lo ∧ s.lo ≤ b ∧ -1 ≤ s.hi ∧ s.hi ≤ b := by
  rcases h with ⟨_, rfl⟩ | ⟨i, j, _, h2, h3, _, _, _, _, rfl⟩
  · refine ⟨Int.le_refl _, ?_, Int.le_refl _, ?_⟩ <;> (show (-1 : Int) ≤ b; omega)
  · refine ⟨?_, ?_, ?_, ?_⟩
    · show (-1 : Int) ≤ (i : Int); omega
    · show (i : Int) ≤ b; omega
    · show (-1 : Int) ≤ (j : Int); omega
    · show (j : Int) ≤ b; omega
theorem span_bounds {c : Code} (h : (rightE c).1 = 0) {r : Nat} {s : Sp} (hs : (spansE c)[r]? = some s) : -1 ≤ s.lo ∧ s.lo ≤ c.l.length ∧ -1 ≤ s.hi ∧ s.hi ≤ c.l.length := by
  obtain ⟨hf, hw⟩ := right_facts h
  have hE : spansE c = spansTo c c.l.length := if_pos h
  rw [hE] at hs
  have hr : r < c.regs.toNat := by
    have := (List.getElem?_eq_some_iff.1 hs).1
    rwa [spansTo_length] at this
  obtain ⟨s', h1, h2⟩ := fwd_is hw hr c.l.length (Nat.le_refl _)
  rw [hs] at h2
  obtain rfl := Option.some.inj h2
  have hb := h1.bounds
  split
  · exact ⟨Int.le_refl _, by show (-1 : Int) ≤ c.l.length; omega, hb.2.2⟩
  · exact hb
theorem wf_small {n : Int} (h0 : -1 ≤ n) (h1 : n ≤ 100000) : (Lit.int .i64 n).wf = true := WalkArith.wf_i64 (by omega)
end Go.Proofs.Ytlkkdpmloeipjaa
