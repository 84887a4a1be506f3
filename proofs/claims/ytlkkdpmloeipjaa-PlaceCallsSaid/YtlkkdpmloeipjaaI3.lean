/- The functions of PlaceCalls: what comes of them. No program in sight. -/
import Derived.Test.YtlkkdpmloeipjaaI2
namespace Go.Proofs.Ytlkkdpmloeipjaa
open Go.RowKit Go.Proofs.YtlkkdpmloeipjaaW.PrintWords
set_option linter.unusedVariables false

theorem ok_call {a b : Nat} (ha : a ≤ 20) (hb : b ≤ 20) : CodeOk (cCall a b) := by
  have hm : ∀ x ∈ (cCall a b).l, x = qK ∨ x = qY ∨ x = qL ∨ x = qT := fun x hx => by
    simp only [cCall, qList, List.mem_append, List.mem_singleton, List.mem_replicate] at hx
    rcases hx with (((h | h) | h) | h) | h
    · exact .inl h
    · exact .inr (.inl h.2)
    · exact .inr (.inr (.inl h))
    · exact .inr (.inl h.2)
    · exact .inr (.inr (.inr h))
  refine ⟨by show (⟨#[97, 46, 102]⟩ : ByteArray).size ≤ 100; decide, Nat.zero_le _, ?_, by show (2 : Int) ≤ 20000; decide, by show (0 : Int) ≤ 20000; decide, fun x hx => ?_, fun x hx => ?_, fun x hx => ?_⟩
  · show (qList a b).length ≤ 3000
    simp [qList]
    omega
  · rcases hm x hx with rfl | rfl | rfl | rfl <;> decide
  · rcases hm x hx with rfl | rfl | rfl | rfl <;> decide
  · rcases hm x hx with rfl | rfl | rfl | rfl <;> decide
/-- What PlaceCalls asks. -/
theorem calls_law {a b : Nat} (ha : a ≤ 20) (hb : b ≤ 20) : ∃ p q : Int, ∃ n : Int, placesE (cCall a b) = ([p, q], n, 0) ∧ (rightE (cCall a b)).1 = 0 ∧ 0 ≤ n ∧ n ≤ 2 ∧ 3 ≤ p ∧ 3 ≤ q ∧ p < 8 + n ∧ q < 8 + n ∧
    (0 < b → 8 ≤ p ∧ checkE (cCall a b) [4, 3] 0 = false) ∧ (b = 0 → checkE (cCall a b) [4, 3] 0 = true ∧ n = 0) := by
  obtain ⟨h0, h1, h2⟩ := call_facts ha hb
  have hok := placesE_ok h0
  have hsl := slots_le h0
  have hez := easy_slots h0
  have hen : (placesE (cCall a b)).2.2 = 0 := by unfold placesE; rw [if_pos h0]
  obtain ⟨P, n, e, hP⟩ : ∃ P n e, placesE (cCall a b) = (P, n, e) := ⟨_, _, _, rfl⟩
  have hr2 : (cCall a b).regs.toNat = 2 := rfl
  rw [hP] at hok hsl hez hen
  rw [hr2] at hok hez
  simp only at hok hsl hez hen
  subst hen
  have hlen : P.length = 2 := hok.len
  match P, hlen with
  | [p, q], _ =>
    have a0 := hok.at_ 0 (by omega)
    have a1 := hok.at_ 1 (by omega)
    have hs0 := hok.slots0
    have g0 : [p, q].getD 0 0 = p := rfl
    have g1 : [p, q].getD 1 0 = q := rfl
    rw [g0] at a0
    rw [g1] at a1
    refine ⟨p, q, n, hP, h0, hs0, hsl, a0.1, a1.1, by omega, by omega, fun hb0 => ⟨a0.2.2 (by rw [h1]; exact decide_eq_true hb0), ?_⟩, fun hb0 => ⟨?_, ?_⟩⟩
    · unfold checkE
      split
      · refine chk_false (r := 0) ?_ _ (by decide)
        show okAt (cCall a b) 0 _ 4 (sp (spansE (cCall a b)) 0) = false
        unfold okAt
        rw [h1, decide_eq_true hb0]
        rfl
      · rfl
    · subst hb0
      have hreg : (cCall a 0).regs = 2 := rfl
      refine check_true h0 (by rw [hreg]; rfl) (Int.le_refl _) (fun r hr => ?_) (fun r k hk hr he => ?_)
      · match r, hr with
        | 0, _ => exact ⟨(by decide : (3 : Int) ≤ 4), (by decide : (4 : Int) - 8 < 0), fun h => by rw [h1] at h; cases h⟩
        | 1, _ => exact ⟨(by decide : (3 : Int) ≤ 3), (by decide : (3 : Int) - 8 < 0), fun h => by rw [h2] at h; cases h⟩
        | r + 2, hr => have h2 : r + 2 < 2 := hr; exact absurd h2 (by omega)
      · match r, k, hr, hk with
        | 0, k, _, hk => omega
        | 1, 0, _, _ => exact absurd (show (4 : Int) = 3 from he) (by decide)
        | 1, k + 1, _, hk => omega
        | r + 2, k, hr, _ => have h2 : r + 2 < 2 := hr; exact absurd h2 (by omega)
    · subst hb0
      refine hez ⟨fun r hr => ?_, fun i hi => ?_⟩
      · match r, hr with
        | 0, _ => rw [h1]; rfl
        | 1, _ => exact h2
        | r + 2, hr => omega
      · have := covTo_le (spansE (cCall a 0)) i 2
        omega
end Go.Proofs.Ytlkkdpmloeipjaa
