/- carlinglaw12.PlaceSame: the walk. -/
import Derived.Test.YtlkkdpmloeipjaaF4
import Derived.Test.YtlkkdpmloeipjaaSI
import Derived.Test.YtlkkdpmloeipjaaB3
namespace Go.Proofs.Ytlkkdpmloeipjaa
open Go.RowKit Go.Proofs.YtlkkdpmloeipjaaW.PrintWords
set_option linter.unusedVariables false

set_option maxHeartbeats 8000000 in
set_option maxRecDepth 100000 in
theorem same12_walk (c : Code) (A1 : Option Addr) (c1 : Nat) (A4 : Option Addr) (c4 : Nat) (w : World) (hat : CodeAt w c A1 c1 A4 c4) (hwf : WfCode c) :
    Calls Try.prog 12 #[codeV c A1 c1 A4 c4] w fun e w' => e = .returned (.bool true) ∧ Below w.heap.size w w' := by
  have HT := Aside0.mk hat
  have HW := Aside0.mk hwf
  have HL := Aside0.mk (fun W hb => light_lit c A1 c1 A4 c4 w W hat hb)
  clear hat hwf
  have hu2 := Try.underlying25
  by_cases hx : lightC c = true ∧ c.regs ≤ 1000
  · obtain ⟨hl, hr⟩ := hx
    rw [hl] at HL
    have HO := Aside0.mk (codeOk_of HW.out hl)
    have HP := Aside0.mk (fun W (hb : Below w.heap.size w W) => places_any c A1 c1 A4 c4 W HO.out (HT.out.below hb))
    clear hl
    obtain ⟨name, params, regs, cells, l⟩ := c
    simp only [codeV] at *
    generalize placesE ⟨name, params, regs, cells, l⟩ = P at *
    obtain ⟨pl, sl, er⟩ := P
    simp only at HP
    go_enter Try.func12, Try.ntmps12
    go_wp2_with (first
      | (go_at_call 30; (with_reducible refine (awake12_any _).mono ?_); rintro e w1 ⟨rfl, hB1⟩; have HB1 := Aside0.mk (show Below (w.heap.size + 1) _ w1 from by simpa using hB1); clear hB1; obtain ⟨g0, g1, g2, g3, g4⟩ := code_box1 (c := ⟨name, params, regs, cells, l⟩) HB1.out; (try simp only at g0 g1 g2 g3 g4))
      | (go_at_call 18; (with_reducible refine (HL.out w1 (below_of_box HB1.out)).mono ?_); rintro e w2 ⟨rfl, hB2⟩; have HB2 := Aside0.mk (box_step HB1.out hB2); clear hB2 g0 g1 g2 g3 g4; obtain ⟨g0, g1, g2, g3, g4⟩ := code_box1 (c := ⟨name, params, regs, cells, l⟩) HB2.out; (try simp only at g0 g1 g2 g3 g4))
      | (go_at_call 31; (with_reducible refine (HP.out w2 (below_of_box HB2.out)).mono ?_); rintro e w3 ⟨A, k, rfl, hk, hC, hB3⟩; have HB3 := Aside0.mk (box_step HB2.out hB3); have HC := Aside0.mk hC; clear hB3 hC g0 g1 g2 g3 g4; obtain ⟨g0, g1, g2, g3, g4⟩ := code_box1 (c := ⟨name, params, regs, cells, l⟩) HB3.out; (try simp only at g0 g1 g2 g3 g4))
      | (go_at_call 31; (with_reducible refine (HP.out w3 (below_of_box HB3.out)).mono ?_); rintro e w4 ⟨A', k', rfl, hk', hC', hB4⟩; have HB4 := Aside0.mk (box_step HB3.out hB4); have HC4 := Aside0.mk (Kd.C_below HC.out hB4); have HC' := Aside0.mk hC'; clear hB4 hC' g0 g1 g2 g3 g4)
      | (go_at_call 33; (with_reducible refine (sameInts_any pl pl A A' _ _ _ HC4.out HC'.out).mono ?_); rintro e w5 ⟨rfl, hB5⟩; rw [show decide (pl = pl) = true by simp]; have HB5 := Aside0.mk (box_step HB4.out hB5); clear hB5))
    go_ret
    exact ⟨rfl, below_of_box HB5.out⟩
  · cases hl : lightC c
    · rw [hl] at HL
      clear hx
      obtain ⟨name, params, regs, cells, l⟩ := c
      simp only [codeV] at *
      go_enter Try.func12, Try.ntmps12
      go_wp2_with (first
      | (go_at_call 30; (with_reducible refine (awake12_any _).mono ?_); rintro e w1 ⟨rfl, hB1⟩; have HB1 := Aside0.mk (show Below (w.heap.size + 1) _ w1 from by simpa using hB1); clear hB1; obtain ⟨g0, g1, g2, g3, g4⟩ := code_box1 (c := ⟨name, params, regs, cells, l⟩) HB1.out; (try simp only at g0 g1 g2 g3 g4))
      | (go_at_call 18; (with_reducible refine (HL.out w1 (below_of_box HB1.out)).mono ?_); rintro e w2 ⟨rfl, hB2⟩; have HB2 := Aside0.mk (box_step HB1.out hB2); clear hB2 g0 g1 g2 g3 g4; obtain ⟨g0, g1, g2, g3, g4⟩ := code_box1 (c := ⟨name, params, regs, cells, l⟩) HB2.out; (try simp only at g0 g1 g2 g3 g4)))
      go_ret
      exact ⟨rfl, below_of_box HB2.out⟩
    · rw [hl] at HL
      have hr : ¬ c.regs ≤ 1000 := fun h => hx ⟨hl, h⟩
      clear hx hl
      obtain ⟨name, params, regs, cells, l⟩ := c
      simp only [codeV] at *
      go_enter Try.func12, Try.ntmps12
      go_wp2_with (first
      | (go_at_call 30; (with_reducible refine (awake12_any _).mono ?_); rintro e w1 ⟨rfl, hB1⟩; have HB1 := Aside0.mk (show Below (w.heap.size + 1) _ w1 from by simpa using hB1); clear hB1; obtain ⟨g0, g1, g2, g3, g4⟩ := code_box1 (c := ⟨name, params, regs, cells, l⟩) HB1.out; (try simp only at g0 g1 g2 g3 g4))
      | (go_at_call 18; (with_reducible refine (HL.out w1 (below_of_box HB1.out)).mono ?_); rintro e w2 ⟨rfl, hB2⟩; have HB2 := Aside0.mk (box_step HB1.out hB2); clear hB2 g0 g1 g2 g3 g4; obtain ⟨g0, g1, g2, g3, g4⟩ := code_box1 (c := ⟨name, params, regs, cells, l⟩) HB2.out; (try simp only at g0 g1 g2 g3 g4)))
      go_ret
      exact ⟨rfl, below_of_box HB2.out⟩
theorem same12_row (c : Code) (A1 : Option Addr) (c1 : Nat) (A4 : Option Addr) (c4 : Nat) {W : World} (hat : CodeAt W c A1 c1 A4 c4) (hwf : WfCode c)
    (_ : World) : Calls Try.prog 12 #[codeV c A1 c1 A4 c4] W fun e w' => e = .returned (.bool true) ∧ Below W.heap.size W w' :=
  same12_walk c A1 c1 A4 c4 W hat hwf
end Go.Proofs.Ytlkkdpmloeipjaa
