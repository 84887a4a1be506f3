/- carlinglaw11.SpanTells: the walk. -/
import Derived.Test.YtlkkdpmloeipjaaCallsW
import Derived.Test.YtlkkdpmloeipjaaC4
namespace Go.Proofs.Ytlkkdpmloeipjaa
open Go.RowKit Go.Proofs.YtlkkdpmloeipjaaW.PrintWords
set_option linter.unusedVariables false

theorem same_self (xs : List Sp) (A B : Option Addr) (c d : Nat) (w : World) (hx : Kd.C kSp w A xs.length xs) (hy : Kd.C kSp w B xs.length xs) :
    Calls Try.prog 24 #[.slice A xs.length c, .slice B xs.length d] w fun e w' => e = .returned (.bool true) ∧ Below w.heap.size w w' := by
  have h := same_any xs xs A B c d w hx hy
  rwa [decide_eq_true rfl] at h

set_option maxHeartbeats 8000000 in
set_option maxRecDepth 100000 in
theorem tells_walk (c : Code) (A1 : Option Addr) (c1 : Nat) (A4 : Option Addr) (c4 : Nat) (w : World) (hat : CodeAt w c A1 c1 A4 c4) (hwf : WfCode c) (s : Sp) :
    Calls Try.prog 7 #[codeV c A1 c1 A4 c4, spV s] w fun e w' => e = .returned (.bool true) ∧ Below w.heap.size w w' := by
  have HT := Aside0.mk hat
  have HW := Aside0.mk hwf
  have HL := Aside0.mk (fun W hb => light_lit c A1 c1 A4 c4 w W hat hb)
  clear hat hwf
  have hu2 := Try.underlying25
  have hu4 := Try.underlying26
  cases hl : lightC c
  · rw [hl] at HL
    obtain ⟨name, params, regs, cells, l⟩ := c
    obtain ⟨lo, hi⟩ := s
    simp only [codeV, spV] at *
    go_enter Try.func7, Try.ntmps7
    go_wp2_with (first
      | (go_at_call 17; (with_reducible refine (awake_any _).mono ?_); rintro e w1 ⟨rfl, hB1⟩; have HB1 := Aside0.mk (box2_of hB1); clear hB1; obtain ⟨_, g0, g1, g2, g3, g4, g5, g6⟩ := cs_boxes (c := ⟨name, params, regs, cells, l⟩) (s := ⟨lo, hi⟩) HB1.out; simp only at g0 g1 g2 g3 g4 g5 g6)
      | (go_at_call 18; (with_reducible refine (HL.out w1 (box2_below HB1.out)).mono ?_); rintro e w2 ⟨rfl, hB2⟩; have HB2 := Aside0.mk (box2_step HB1.out hB2); clear hB2 g0 g1 g2 g3 g4 g5 g6; obtain ⟨_, g0, g1, g2, g3, g4, g5, g6⟩ := cs_boxes (c := ⟨name, params, regs, cells, l⟩) (s := ⟨lo, hi⟩) HB2.out; simp only at g0 g1 g2 g3 g4 g5 g6))
    go_ret
    exact ⟨rfl, box2_below HB2.out⟩
  · rw [hl] at HL
    have HO := Aside0.mk (codeOk_of HW.out hl)
    clear hl
    by_cases h3 : c.regs ≤ 300
    rotate_left
    · obtain ⟨name, params, regs, cells, l⟩ := c
      obtain ⟨lo, hi⟩ := s
      simp only [codeV, spV] at *
      go_enter Try.func7, Try.ntmps7
      go_wp2_with (first
        | (go_at_call 17; (with_reducible refine (awake_any _).mono ?_); rintro e w1 ⟨rfl, hB1⟩; have HB1 := Aside0.mk (box2_of hB1); clear hB1; obtain ⟨_, g0, g1, g2, g3, g4, g5, g6⟩ := cs_boxes (c := ⟨name, params, regs, cells, l⟩) (s := ⟨lo, hi⟩) HB1.out; simp only at g0 g1 g2 g3 g4 g5 g6)
        | (go_at_call 18; (with_reducible refine (HL.out w1 (box2_below HB1.out)).mono ?_); rintro e w2 ⟨rfl, hB2⟩; have HB2 := Aside0.mk (box2_step HB1.out hB2); clear hB2 g0 g1 g2 g3 g4 g5 g6; obtain ⟨_, g0, g1, g2, g3, g4, g5, g6⟩ := cs_boxes (c := ⟨name, params, regs, cells, l⟩) (s := ⟨lo, hi⟩) HB2.out; simp only at g0 g1 g2 g3 g4 g5 g6))
      go_ret
      exact ⟨rfl, box2_below HB2.out⟩
    have HS := Aside0.mk (fun W (hb : Below w.heap.size w W) => spans_any c A1 c1 A4 c4 W HO.out (HT.out.below hb))
    have HR := Aside0.mk (fun W (hb : Below w.heap.size w W) => rspans_any c A1 c1 A4 c4 W HO.out (HT.out.below hb))
    rw [← spans_ref c] at HR
    have K1 := Aside0.mk (fun W (hb : Below w.heap.size w W) => calls_any c s A1 c1 A4 c4 W HO.out.len (HT.out.below hb).l)
    have K2 := Aside0.mk (fun W (hb : Below w.heap.size w W) => rcalls_any c s A1 c1 A4 c4 W HO.out.len (HT.out.below hb).l)
    obtain ⟨name, params, regs, cells, l⟩ := c
    obtain ⟨lo, hi⟩ := s
    simp only [codeV, spV] at *
    generalize spansE ⟨name, params, regs, cells, l⟩ = E at *
    generalize callsB ⟨name, params, regs, cells, l⟩ ⟨lo, hi⟩ = b1 at *
    have HF := Aside0.mk (fun W (h : Below (w.heap.size + 2) ((w.alloc (.cells #[.string name, .slice A1 params.length c1, .int .i64 regs, .int .i64 cells, .slice A4 l.length c4] 25)).alloc (.cells #[.int .i64 lo, .int .i64 hi] 26)) W) => cs_boxes (c := ⟨name, params, regs, cells, l⟩) (s := ⟨lo, hi⟩) h)
    go_enter Try.func7, Try.ntmps7
    go_upto_region 5 with (first
      | (go_at_call 17; (with_reducible refine (awake_any _).mono ?_); rintro e w1 ⟨rfl, hB1⟩; have HB1 := Aside0.mk (box2_of hB1); clear hB1; obtain ⟨_, g0, g1, g2, g3, g4, g5, g6⟩ := cs_boxes (c := ⟨name, params, regs, cells, l⟩) (s := ⟨lo, hi⟩) HB1.out; simp only at g0 g1 g2 g3 g4 g5 g6)
      | (go_at_call 18; (with_reducible refine (HL.out w1 (box2_below HB1.out)).mono ?_); rintro e w2 ⟨rfl, hB2⟩; have HB2 := Aside0.mk (box2_step HB1.out hB2); clear hB2 g0 g1 g2 g3 g4 g5 g6; obtain ⟨_, g0, g1, g2, g3, g4, g5, g6⟩ := cs_boxes (c := ⟨name, params, regs, cells, l⟩) (s := ⟨lo, hi⟩) HB2.out; simp only at g0 g1 g2 g3 g4 g5 g6))
    have HBd := Aside0.mk (below_drew1 HB2.out)
    go_cut [7] (fun v7 wc => v7 = .bool true ∧ Aside0 (Below (w.heap.size + 2) ((w.alloc (.cells #[.string name, .slice A1 params.length c1, .int .i64 regs, .int .i64 cells, .slice A4 l.length c4] 25)).alloc (.cells #[.int .i64 lo, .int .i64 hi] 26)) wc))
    case first =>
      go_region_with (first
        | (go_at_call 23; (with_reducible refine (HS.out _ (box2_below HBd.out)).mono ?_); rintro e w3 ⟨A3, k3, rfl, hk3, hC3, hB3⟩; have HB3 := Aside0.mk (box2_step HBd.out hB3); have HC3 := Aside0.mk hC3; clear hB3 hC3; obtain ⟨_, q0, q1, q2, q3, q4, q5, q6⟩ := HF.out _ HB3.out)
        | (go_at_call 25; (with_reducible refine (HR.out _ (box2_below HBd.out)).mono ?_); rintro e w4 ⟨A5, k5, rfl, hk5, hC5, hB5⟩; have HB4 := Aside0.mk (box2_step HBd.out hB5); have HC5 := Aside0.mk hC5; clear hB5 hC5; obtain ⟨_, q0, q1, q2, q3, q4, q5, q6⟩ := HF.out _ HB4.out)
        | (go_at_call 23; (with_reducible refine (HS.out _ (box2_below HB4.out)).mono ?_); rintro e w3 ⟨A3, k3, rfl, hk3, hC3, hB3⟩; have HBz := Aside0.mk (box2_step HB4.out hB3); have HC3 := Aside0.mk hC3; have HC5 := Aside0.mk (Kd.C_below HC5.out hB3); clear hB3 hC3)
        | (go_at_call 25; (with_reducible refine (HR.out _ (box2_below HB3.out)).mono ?_); rintro e w4 ⟨A5, k5, rfl, hk5, hC5, hB5⟩; have HBz := Aside0.mk (box2_step HB3.out hB5); have HC5 := Aside0.mk hC5; have HC3 := Aside0.mk (Kd.C_below HC3.out hB5); clear hB5 hC5)
        | (go_at_call 24; (with_reducible refine (same_self E A3 A5 k3 k5 _ HC3.out HC5.out).mono ?_); rintro e w6 ⟨rfl, hB6⟩; have HB6 := Aside0.mk (box2_step HBz.out hB6); clear hB6))
      all_goals
        go_wp2
        go_meet
        case rel => exact ⟨rfl, HB6⟩
    case rest =>
      obtain ⟨rfl, HB6⟩ := hcut
      clear g0 g1 g2 g3 g4 g5 g6
      have HB7 := Aside0.mk (below_drew1 HB6.out)
      cases b1
      all_goals
        go_wp2
        refine wp_region_class (S := Below (w.heap.size + 2) _) (by kernel_rfl) (by kernel_rfl) HB7.out ?_
        intro T f hTn hT0
        have hT := Aside0.mk hT0
        have f0 := fun n => (HF.out _ (class_mem hT0 n)).2.1
        have f1 := fun n => (HF.out _ (class_mem hT0 n)).2.2.1
        have f2 := fun n => (HF.out _ (class_mem hT0 n)).2.2.2.1
        have f3 := fun n => (HF.out _ (class_mem hT0 n)).2.2.2.2.1
        have f4 := fun n => (HF.out _ (class_mem hT0 n)).2.2.2.2.2.1
        have f5 := fun n => (HF.out _ (class_mem hT0 n)).2.2.2.2.2.2.1
        have f6 := fun n => (HF.out _ (class_mem hT0 n)).2.2.2.2.2.2.2
        clear hT0
        repeat (go_big_quiet_step (first
          | (go_at_call 19; (with_reducible refine class_call hT.out (K1.out _ ?_) ?_); exact (box2_below (class_mem hT.out _)); exact (fun _ h => box2_step (class_mem hT.out _) h))
          | (go_at_call 26; (with_reducible refine class_call hT.out (K2.out _ ?_) ?_); exact (box2_below (class_mem hT.out _)); exact (fun _ h => box2_step (class_mem hT.out _) h))))
        refine wpQuiet_nil ?_
        intro w8 hw8
        have HB8 := Aside0.mk ((hT.out _).2 hw8)
        clear hw8 f0 f1 f2 f3 f4 f5 f6 hT
        go_wp2
        go_ret
        exact ⟨rfl, box2_below HB8.out⟩
theorem tells_row (c : Code) (A1 : Option Addr) (c1 : Nat) (A4 : Option Addr) (c4 : Nat) {W : World} (hat : CodeAt W c A1 c1 A4 c4) (hwf : WfCode c) (s : Sp) (_ : (Lit.int .i64 s.lo).wf = true) (_ : (Lit.int .i64 s.hi).wf = true)
    (_ : World) : Calls Try.prog 7 #[codeV c A1 c1 A4 c4, spV s] W fun e w' => e = .returned (.bool true) ∧ Below W.heap.size W w' :=
  tells_walk c A1 c1 A4 c4 W hat hwf s
end Go.Proofs.Ytlkkdpmloeipjaa
