/- carlinglaw12.PlaceTells: the walk. -/
import Derived.Test.YtlkkdpmloeipjaaF4
import Derived.Test.YtlkkdpmloeipjaaH2
import Derived.Test.YtlkkdpmloeipjaaB3
namespace Go.Proofs.Ytlkkdpmloeipjaa
open Go.RowKit Go.Proofs.YtlkkdpmloeipjaaW.PrintWords
set_option linter.unusedVariables false

set_option maxHeartbeats 8000000 in
set_option maxRecDepth 100000 in
theorem ptells_walk (c : Code) (A1 : Option Addr) (c1 : Nat) (A4 : Option Addr) (c4 : Nat) (w : World) (hat : CodeAt w c A1 c1 A4 c4) (hwf : WfCode c) :
    Calls Try.prog 13 #[codeV c A1 c1 A4 c4] w fun e w' => e = .returned (.bool true) ∧ Below w.heap.size w w' := by
  have HT := Aside0.mk hat
  have HW := Aside0.mk hwf
  have HL := Aside0.mk (fun W hb => light_lit c A1 c1 A4 c4 w W hat hb)
  clear hat hwf
  have hu2 := Try.underlying25
  by_cases hx : lightC c = true ∧ c.regs ≤ 300
  · obtain ⟨hl, hr⟩ := hx
    rw [hl] at HL
    have HO := Aside0.mk (codeOk_of HW.out hl)
    have HP := Aside0.mk (fun W (hb : Below w.heap.size w W) => places_any c A1 c1 A4 c4 W HO.out (HT.out.below hb))
    have HR := Aside0.mk (fun W (hb : Below w.heap.size w W) => rright_any c A1 c1 A4 c4 W HO.out (HT.out.below hb))
    clear hl
    by_cases hb : (rightE c).1 = 0
    · have hr0 := (formB_cells (right_facts hb).1).2.2.1
      have hok := placesE_ok hb
      have hsl := slots_le hb
      have hs0 := hok.slots0
      have hez := easy_slots hb
      have hen : (placesE c).2.2 = 0 := by unfold placesE; rw [if_pos hb]
      obtain ⟨n, hn⟩ : ∃ n : Nat, (n : Int) = c.regs := ⟨c.regs.toNat, by omega⟩
      rw [show c.regs.toNat = n by omega] at hok hez
      have HC := Aside0.mk (fun W (hw : Below w.heap.size w W) (A : Option Addr) (k : Nat) (hl : Kd.C (Kd.int .i64) W A (placesE c).1.length (placesE c).1) => rcheck_true c (placesE c).1 (placesE c).2.1 n A1 c1 A4 c4 A k W HO.out (HT.out.below hw) hl hb hn (by omega) hok)
      have HE := Aside0.mk (fun W (hw : Below w.heap.size w W) => easy_any c n A1 c1 A4 c4 W HO.out (HT.out.below hw) hb hn)
      have HZ := Aside0.mk hez
      have hbb : ((rightE c).1 != 0) = false := bne_eq_false_iff_eq.2 hb
      clear hez hok hb
      rw [hen] at HP
      clear hen
      generalize EasyOk c (spansE c) n = EY at *
      obtain ⟨name, params, regs, cells, l⟩ := c
      simp only [codeV] at *
      generalize placesE ⟨name, params, regs, cells, l⟩ = P at *
      obtain ⟨pl, sl, er⟩ := P
      generalize rightE ⟨name, params, regs, cells, l⟩ = re at *
      obtain ⟨e1, e2⟩ := re
      simp only at HP HC HE HZ hsl hs0 hbb hr hn HR
      subst hn
      go_enter Try.func13, Try.ntmps13
      go_upto_region 11 with (first
        | (go_at_call 30; (with_reducible refine (awake12_any _).mono ?_); rintro e w1 ⟨rfl, hB1⟩; have HB1 := Aside0.mk (show Below (w.heap.size + 1) _ w1 from by simpa using hB1); clear hB1; obtain ⟨g0, g1, g2, g3, g4⟩ := code_box1 (c := ⟨name, params, (n : Int), cells, l⟩) HB1.out; (try simp only at g0 g1 g2 g3 g4))
        | (go_at_call 18; (with_reducible refine (HL.out w1 (below_of_box HB1.out)).mono ?_); rintro e w2 ⟨rfl, hB2⟩; have HB2 := Aside0.mk (box_step HB1.out hB2); clear hB2 g0 g1 g2 g3 g4; obtain ⟨g0, g1, g2, g3, g4⟩ := code_box1 (c := ⟨name, params, (n : Int), cells, l⟩) HB2.out; (try simp only at g0 g1 g2 g3 g4))
        | (go_at_call 31; (with_reducible refine (HP.out w2 (below_of_box HB2.out)).mono ?_); rintro e w3 ⟨A, k, rfl, hk, hC, hB3⟩; have HB3 := Aside0.mk (box_step HB2.out hB3); have HCp := Aside0.mk hC; clear hB3 hC g0 g1 g2 g3 g4; obtain ⟨g0, g1, g2, g3, g4⟩ := code_box1 (c := ⟨name, params, (n : Int), cells, l⟩) HB3.out; (try simp only at g0 g1 g2 g3 g4))
        | (go_at_call 27; (with_reducible refine (HR.out w3 (below_of_box HB3.out)).mono ?_); rintro e w4 ⟨rfl, hB4⟩; have HB4 := Aside0.mk (box_step HB3.out hB4); have HCq := Aside0.mk (Kd.C_below HCp.out hB4); clear hB4 g0 g1 g2 g3 g4; obtain ⟨g0, g1, g2, g3, g4⟩ := code_box1 (c := ⟨name, params, (n : Int), cells, l⟩) HB4.out; (try simp only at g0 g1 g2 g3 g4))
        | (go_at_call 34; (with_reducible refine (HC.out w4 (below_of_box HB4.out) A _ HCq.out).mono ?_); rintro e w5 ⟨rfl, hB5⟩; have HB5 := Aside0.mk (box_step HB4.out hB5); clear hB5 g0 g1 g2 g3 g4; obtain ⟨g0, g1, g2, g3, g4⟩ := code_box1 (c := ⟨name, params, (n : Int), cells, l⟩) HB5.out; (try simp only at g0 g1 g2 g3 g4))
        | (go_at_call 35; (with_reducible refine (HE.out w5 (below_of_box HB5.out)).mono ?_); rintro e w6 ⟨b, rfl, hE, hB6⟩; have HB6 := Aside0.mk (box_step HB5.out hB6); have HEy := Aside0.mk hE; clear hB6 hE g0 g1 g2 g3 g4; obtain ⟨g0, g1, g2, g3, g4⟩ := code_box1 (c := ⟨name, params, (n : Int), cells, l⟩) HB6.out; (try simp only at g0 g1 g2 g3 g4)))
      cases b
      · go_wp2
        go_ret
        exact ⟨rfl, below_of_box HB6.out⟩
      · have hz : sl = 0 := HZ.out (HEy.out rfl)
        subst hz
        go_wp2
        go_ret
        exact ⟨rfl, below_of_box HB6.out⟩
    · have hbb : ((rightE c).1 != 0) = true := bne_iff_ne.2 hb
      have hpe : placesE c = ([], 0, (rightE c).1) := by unfold placesE; rw [if_neg hb]
      rw [hpe] at HP
      clear hb hpe
      obtain ⟨name, params, regs, cells, l⟩ := c
      simp only [codeV] at *
      generalize rightE ⟨name, params, regs, cells, l⟩ = re at *
      obtain ⟨e1, e2⟩ := re
      simp only [List.length_nil] at HP hbb HR
      go_enter Try.func13, Try.ntmps13
      go_wp2_with (first
        | (go_at_call 30; (with_reducible refine (awake12_any _).mono ?_); rintro e w1 ⟨rfl, hB1⟩; have HB1 := Aside0.mk (show Below (w.heap.size + 1) _ w1 from by simpa using hB1); clear hB1; obtain ⟨g0, g1, g2, g3, g4⟩ := code_box1 (c := ⟨name, params, regs, cells, l⟩) HB1.out; (try simp only at g0 g1 g2 g3 g4))
        | (go_at_call 18; (with_reducible refine (HL.out w1 (below_of_box HB1.out)).mono ?_); rintro e w2 ⟨rfl, hB2⟩; have HB2 := Aside0.mk (box_step HB1.out hB2); clear hB2 g0 g1 g2 g3 g4; obtain ⟨g0, g1, g2, g3, g4⟩ := code_box1 (c := ⟨name, params, regs, cells, l⟩) HB2.out; (try simp only at g0 g1 g2 g3 g4))
        | (go_at_call 31; (with_reducible refine (HP.out w2 (below_of_box HB2.out)).mono ?_); rintro e w3 ⟨A, k, rfl, hk, hC, hB3⟩; (try simp only [List.length_nil]); have HB3 := Aside0.mk (box_step HB2.out hB3); clear hB3 hC g0 g1 g2 g3 g4; obtain ⟨g0, g1, g2, g3, g4⟩ := code_box1 (c := ⟨name, params, regs, cells, l⟩) HB3.out; (try simp only at g0 g1 g2 g3 g4))
        | (go_at_call 27; (with_reducible refine (HR.out w3 (below_of_box HB3.out)).mono ?_); rintro e w4 ⟨rfl, hB4⟩; have HB4 := Aside0.mk (box_step HB3.out hB4); clear hB4 g0 g1 g2 g3 g4))
      go_ret
      exact ⟨rfl, below_of_box HB4.out⟩
  · cases hl : lightC c
    · rw [hl] at HL
      clear hx
      obtain ⟨name, params, regs, cells, l⟩ := c
      simp only [codeV] at *
      go_enter Try.func13, Try.ntmps13
      go_wp2_with (first
        | (go_at_call 30; (with_reducible refine (awake12_any _).mono ?_); rintro e w1 ⟨rfl, hB1⟩; have HB1 := Aside0.mk (show Below (w.heap.size + 1) _ w1 from by simpa using hB1); clear hB1; obtain ⟨g0, g1, g2, g3, g4⟩ := code_box1 (c := ⟨name, params, regs, cells, l⟩) HB1.out; (try simp only at g0 g1 g2 g3 g4))
        | (go_at_call 18; (with_reducible refine (HL.out w1 (below_of_box HB1.out)).mono ?_); rintro e w2 ⟨rfl, hB2⟩; have HB2 := Aside0.mk (box_step HB1.out hB2); clear hB2 g0 g1 g2 g3 g4; obtain ⟨g0, g1, g2, g3, g4⟩ := code_box1 (c := ⟨name, params, regs, cells, l⟩) HB2.out; (try simp only at g0 g1 g2 g3 g4)))
      go_ret
      exact ⟨rfl, below_of_box HB2.out⟩
    · rw [hl] at HL
      have hr : ¬ c.regs ≤ 300 := fun h => hx ⟨hl, h⟩
      clear hx hl
      obtain ⟨name, params, regs, cells, l⟩ := c
      simp only [codeV] at *
      go_enter Try.func13, Try.ntmps13
      go_wp2_with (first
        | (go_at_call 30; (with_reducible refine (awake12_any _).mono ?_); rintro e w1 ⟨rfl, hB1⟩; have HB1 := Aside0.mk (show Below (w.heap.size + 1) _ w1 from by simpa using hB1); clear hB1; obtain ⟨g0, g1, g2, g3, g4⟩ := code_box1 (c := ⟨name, params, regs, cells, l⟩) HB1.out; (try simp only at g0 g1 g2 g3 g4))
        | (go_at_call 18; (with_reducible refine (HL.out w1 (below_of_box HB1.out)).mono ?_); rintro e w2 ⟨rfl, hB2⟩; have HB2 := Aside0.mk (box_step HB1.out hB2); clear hB2 g0 g1 g2 g3 g4; obtain ⟨g0, g1, g2, g3, g4⟩ := code_box1 (c := ⟨name, params, regs, cells, l⟩) HB2.out; (try simp only at g0 g1 g2 g3 g4)))
      go_ret
      exact ⟨rfl, below_of_box HB2.out⟩
theorem ptells_row (c : Code) (A1 : Option Addr) (c1 : Nat) (A4 : Option Addr) (c4 : Nat) {W : World} (hat : CodeAt W c A1 c1 A4 c4) (hwf : WfCode c)
    (_ : World) : Calls Try.prog 13 #[codeV c A1 c1 A4 c4] W fun e w' => e = .returned (.bool true) ∧ Below W.heap.size W w' :=
  ptells_walk c A1 c1 A4 c4 W hat hwf
end Go.Proofs.Ytlkkdpmloeipjaa
