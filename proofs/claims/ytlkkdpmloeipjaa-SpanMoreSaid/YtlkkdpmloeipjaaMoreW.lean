/- carlinglaw11.SpanMore: the walk. -/
import Derived.Test.YtlkkdpmloeipjaaS2
import Derived.Test.YtlkkdpmloeipjaaP1
import Derived.Test.YtlkkdpmloeipjaaA16
import Derived.OwnWalk
namespace Go.Proofs.Ytlkkdpmloeipjaa
open Go.RowKit Go.Proofs.YtlkkdpmloeipjaaW.PrintWords
set_option linter.unusedVariables false

theorem c_boxes {w w' : World} {c : Code} {A1 A4 : Option Addr} {c1 c4 : Nat} (h : Below (w.heap.size + 1) (w.alloc (.cells #[.string c.name, .slice A1 c.params.length c1, .int .i64 c.regs, .int .i64 c.cells, .slice A4 c.l.length c4] 25 (0, 0))) w') :
    w'.cell? ⟨w.heap.size, 0, none⟩ = some (.string c.name) ∧ w'.cell? ⟨w.heap.size, 1, none⟩ = some (.slice A1 c.params.length c1) ∧ w'.cell? ⟨w.heap.size, 2, none⟩ = some (.int .i64 c.regs) ∧ w'.cell? ⟨w.heap.size, 3, none⟩ = some (.int .i64 c.cells) ∧ w'.cell? ⟨w.heap.size, 4, none⟩ = some (.slice A4 c.l.length c4) ∧
    w'.heap[w.heap.size]? = some (.cells #[.string c.name, .slice A1 c.params.length c1, .int .i64 c.regs, .int .i64 c.cells, .slice A4 c.l.length c4] 25 (0, 0)) :=
  ⟨box_cells h 0, box_cells h 1, box_cells h 2, box_cells h 3, box_cells h 4, (h.block _ (Nat.lt_succ_self _)).trans (blk_new _ _)⟩
theorem c_more {w : World} {b : Nat} {x0 x1 x2 x3 x4 : Value} (h : w.heap[b]? = some (.cells #[x0, x1, x2, x3, x4] 25 (0, 0))) (v : Value) :
    (w.setCell ⟨b, 2, none⟩ v).heap[b]? = some (.cells #[x0, x1, v, x3, x4] 25 (0, 0)) ∧
    (w.setCell ⟨b, 2, none⟩ v).cell? ⟨b, 0, none⟩ = some x0 ∧ (w.setCell ⟨b, 2, none⟩ v).cell? ⟨b, 1, none⟩ = some x1 ∧ (w.setCell ⟨b, 2, none⟩ v).cell? ⟨b, 2, none⟩ = some v ∧ (w.setCell ⟨b, 2, none⟩ v).cell? ⟨b, 3, none⟩ = some x3 ∧ (w.setCell ⟨b, 2, none⟩ v).cell? ⟨b, 4, none⟩ = some x4 := by
  have h2 : (w.setCell ⟨b, 2, none⟩ v).heap[b]? = some (.cells #[x0, x1, v, x3, x4] 25 (0, 0)) := blk_put h 2 v rfl
  exact ⟨h2, blk_cell h2 0, blk_cell h2 1, blk_cell h2 2, blk_cell h2 3, blk_cell h2 4⟩
theorem codeOk_more {c : Code} (h : CodeOk c) (hr : c.regs ≤ 500) : CodeOk (moreC c) := ⟨h.name, h.params, h.len, by show c.regs + 1 ≤ 20000; omega, h.cells, h.names, h.args, h.n⟩
theorem spansE_length {c : Code} (h : (rightE c).1 = 0) : (spansE c).length = c.regs.toNat := by
  unfold spansE; rw [if_pos h]; exact spansTo_length c _

set_option maxHeartbeats 8000000 in
set_option maxRecDepth 100000 in
theorem more_walk (c : Code) (A1 : Option Addr) (c1 : Nat) (A4 : Option Addr) (c4 : Nat) (w : World) (hat : CodeAt w c A1 c1 A4 c4) (hwf : WfCode c) :
    Calls Try.prog 5 #[codeV c A1 c1 A4 c4] w fun e w' => e = .returned (.bool true) ∧ Below w.heap.size w w' := by
  have HT := Aside0.mk hat
  have HW := Aside0.mk hwf
  have HL := Aside0.mk (fun W hb => light_lit c A1 c1 A4 c4 w W hat hb)
  clear hat hwf
  have hu2 := Try.underlying25
  cases hl : lightC c
  · rw [hl] at HL
    obtain ⟨name, params, regs, cells, l⟩ := c
    simp only [codeV] at *
    go_enter Try.func5, Try.ntmps5
    go_wp2_with (first
      | (go_at_call 17; (with_reducible refine (awake_any _).mono ?_); rintro e w1 ⟨rfl, hB1⟩; have HB1 := Aside0.mk (show Below (w.heap.size + 1) _ w1 from by simpa using hB1); clear hB1; obtain ⟨g0, g1, g2, g3, g4, _⟩ := c_boxes (c := ⟨name, params, regs, cells, l⟩) HB1.out; simp only at g0 g1 g2 g3 g4)
      | (go_at_call 18; (with_reducible refine (HL.out w1 (below_of_box HB1.out)).mono ?_); rintro e w2 ⟨rfl, hB2⟩; have HB2 := Aside0.mk (box_step HB1.out hB2); clear hB2))
    go_ret
    exact ⟨rfl, below_of_box HB2.out⟩
  · rw [hl] at HL
    have HO := Aside0.mk (codeOk_of HW.out hl)
    clear hl
    by_cases h5 : c.regs ≤ 500
    rotate_left
    · obtain ⟨name, params, regs, cells, l⟩ := c
      simp only [codeV] at *
      go_enter Try.func5, Try.ntmps5
      go_wp2_with (first
        | (go_at_call 17; (with_reducible refine (awake_any _).mono ?_); rintro e w1 ⟨rfl, hB1⟩; have HB1 := Aside0.mk (show Below (w.heap.size + 1) _ w1 from by simpa using hB1); clear hB1; obtain ⟨g0, g1, g2, g3, g4, _⟩ := c_boxes (c := ⟨name, params, regs, cells, l⟩) HB1.out; simp only at g0 g1 g2 g3 g4)
        | (go_at_call 18; (with_reducible refine (HL.out w1 (below_of_box HB1.out)).mono ?_); rintro e w2 ⟨rfl, hB2⟩; have HB2 := Aside0.mk (box_step HB1.out hB2); clear hB2 g0 g1 g2 g3 g4; obtain ⟨g0, g1, g2, g3, g4, _⟩ := c_boxes (c := ⟨name, params, regs, cells, l⟩) HB2.out; simp only at g0 g1 g2 g3 g4))
      go_ret
      exact ⟨rfl, below_of_box HB2.out⟩
    have HR := Aside0.mk (fun W (hb : Below w.heap.size w W) => right_any c A1 c1 A4 c4 W HO.out (HT.out.below hb))
    by_cases hr : (rightE c).1 = 0
    rotate_left
    · have hrb : ((rightE c).1 != 0) = true := bne_iff_ne.2 hr
      obtain ⟨name, params, regs, cells, l⟩ := c
      simp only [codeV] at *
      generalize rightE ⟨name, params, regs, cells, l⟩ = re at *
      obtain ⟨e1, e2⟩ := re
      simp only at hr hrb
      go_enter Try.func5, Try.ntmps5
      go_wp2_with (first
        | (go_at_call 17; (with_reducible refine (awake_any _).mono ?_); rintro e w1 ⟨rfl, hB1⟩; have HB1 := Aside0.mk (show Below (w.heap.size + 1) _ w1 from by simpa using hB1); clear hB1; obtain ⟨g0, g1, g2, g3, g4, _⟩ := c_boxes (c := ⟨name, params, regs, cells, l⟩) HB1.out; simp only at g0 g1 g2 g3 g4)
        | (go_at_call 18; (with_reducible refine (HL.out w1 (below_of_box HB1.out)).mono ?_); rintro e w2 ⟨rfl, hB2⟩; have HB2 := Aside0.mk (box_step HB1.out hB2); clear hB2 g0 g1 g2 g3 g4; obtain ⟨g0, g1, g2, g3, g4, _⟩ := c_boxes (c := ⟨name, params, regs, cells, l⟩) HB2.out; simp only at g0 g1 g2 g3 g4)
        | (go_at_call 22; (with_reducible refine (HR.out w2 (below_of_box HB2.out)).mono ?_); rintro e w3 ⟨rfl, hB3⟩; have HB3 := Aside0.mk (box_step HB2.out hB3); clear hB3))
      go_ret
      exact ⟨rfl, below_of_box HB3.out⟩
    have h0 : 0 ≤ c.regs := by have := (formB_cells (right_facts hr).1).2.2.1; omega
    have HS := Aside0.mk (fun W (hb : Below w.heap.size w W) => spans_own c A1 c1 A4 c4 W HO.out (HT.out.below hb) hr)
    have HS2 := Aside0.mk (fun W (hb : Below w.heap.size w W) => spans_own (moreC c) A1 c1 A4 c4 W (codeOk_more HO.out h5) (show CodeAt W (moreC c) A1 c1 A4 c4 from ⟨(HT.out.below hb).params, (HT.out.below hb).pcap, (HT.out.below hb).l, (HT.out.below hb).lcap⟩) (right_more hr (by omega)))
    have HM := Aside0.mk (spans_more hr (by omega))
    have hEl := spansE_length hr
    have hrb : ((rightE c).1 != 0) = false := bne_eq_false_iff_eq.2 hr
    obtain ⟨name, params, regs, cells, l⟩ := c
    simp only [codeV, moreC] at *
    generalize spansE ⟨name, params, regs + 1, cells, l⟩ = M at *
    generalize spansE ⟨name, params, regs, cells, l⟩ = E at *
    generalize rightE ⟨name, params, regs, cells, l⟩ = re at *
    obtain ⟨e1, e2⟩ := re
    simp only at hr hrb
    have hE500 : E.length ≤ 500 := by omega
    have HE5 := Aside0.mk hE500
    clear hEl hE500 hr
    go_enter Try.func5, Try.ntmps5
    go_upto_region 9 with (first
      | (go_at_call 17; (with_reducible refine (awake_any _).mono ?_); rintro e w1 ⟨rfl, hB1⟩; have HB1 := Aside0.mk (show Below (w.heap.size + 1) _ w1 from by simpa using hB1); clear hB1; obtain ⟨g0, g1, g2, g3, g4, _⟩ := c_boxes (c := ⟨name, params, regs, cells, l⟩) HB1.out; simp only at g0 g1 g2 g3 g4)
      | (go_at_call 18; (with_reducible refine (HL.out w1 (below_of_box HB1.out)).mono ?_); rintro e w2 ⟨rfl, hB2⟩; have HB2 := Aside0.mk (box_step HB1.out hB2); clear hB2 g0 g1 g2 g3 g4; obtain ⟨g0, g1, g2, g3, g4, _⟩ := c_boxes (c := ⟨name, params, regs, cells, l⟩) HB2.out; simp only at g0 g1 g2 g3 g4)
      | (go_at_call 22; (with_reducible refine (HR.out w2 (below_of_box HB2.out)).mono ?_); rintro e w3 ⟨rfl, hB3⟩; have HB3 := Aside0.mk (box_step HB2.out hB3); clear hB3 g0 g1 g2 g3 g4; obtain ⟨g0, g1, g2, g3, g4, _⟩ := c_boxes (c := ⟨name, params, regs, cells, l⟩) HB3.out; simp only at g0 g1 g2 g3 g4)
      | (go_at_call 23; (with_reducible refine (HS.out w3 (below_of_box HB3.out)).mono ?_); rintro e w4 ⟨A, cA, rfl, hcA, hC4, hB4, ho4⟩; have HB4 := Aside0.mk (box_step HB3.out hB4); have HC4 := Aside0.mk hC4; have HO4 := Aside0.mk ho4; have HZ3 := Aside0.mk hB4.size; clear hB4 hC4 ho4 g0 g1 g2 g3 g4))
    have hb4 := (c_boxes (c := ⟨name, params, regs, cells, l⟩) HB4.out).2.2.2.2.2
    have g2 := (c_boxes (c := ⟨name, params, regs, cells, l⟩) HB4.out).2.2.1
    simp only at g2
    have f2 := blk_frozen hb4 2
    obtain ⟨_, k0, k1, k2, k3, k4⟩ := c_more hb4 (.int .i64 (regs + 1))
    simp only at k0 k1 k2 k3 k4
    have HBs := Aside0.mk (show Below w.heap.size w (w4.setCell ⟨w.heap.size, 2, none⟩ (.int .i64 (regs + 1))) from below_set (below_of_box HB4.out) (Nat.le_refl _))
    have HCs := Aside0.mk (show Kd.C kSp (w4.setCell ⟨w.heap.size, 2, none⟩ (.int .i64 (regs + 1))) A E.length E from C_same HC4.out (fun ad e => Below.heap_setCell _ _ _ _ (by have h1 := HO4.out ad e; have h2 := HB3.out.size; simp at h2; show ad.block ≠ w.heap.size; omega)))
    clear hb4
    go_wp2_with (first
      | (go_at_call 23; (with_reducible refine (HS2.out _ HBs.out).mono ?_); rintro e w6 ⟨B, cB, rfl, hcB, hC6, hB6, _⟩; have HB6 := Aside0.mk (below_step HBs.out hB6); have HC6 := Aside0.mk hC6; have HE6 := Aside0.mk (Kd.C_below HCs.out hB6); clear hB6 hC6 k0 k1 k2 k3 k4)
      | (at_builtin; refine sp_app w6.heap.size rfl (.tmp 39) (.tmp 40) rfl (.slice (some ⟨w6.heap.size, 0, none⟩) 0 0) [] E A cA rfl rfl (ownSp_empty (blk_new w6 _) (Nat.le_refl _)) (Kd.C_alloc HE6.out _) (w0 := w6) (below_alloc (Below.refl _ _) _) (by simp) (by have := HE5.out; simp; omega) ?_; intro v7 w7 hR7 hb7 _; have HR7 := Aside0.mk hR7; have HB7 := Aside0.mk hb7; clear hR7 hb7)
      | (at_builtin; refine sp_app w6.heap.size rfl (.tmp 41) (.tmp 43) rfl v7 ([] ++ E) [⟨-1, -1⟩] _ 1 rfl rfl (Kd.R_alloc HR7.out _) (C_sp1 (blk_new w7 _)) (w0 := w6) (below_alloc HB7.out _) (by have := HB7.out.size; simp; omega) (by have := HE5.out; simp; omega) ?_; intro v8 w8 hR8 hb8 _; have HB8 := Aside0.mk hb8; rw [show ([] ++ E ++ [⟨-1, -1⟩] : List Sp) = M from HM.out.symm] at hR8; obtain ⟨A8, c8, rfl, hc8, hC8⟩ := Kd.R_reads hR8; have HC8 := Aside0.mk hC8; clear hR8 hb8 hC8)
      | (go_at_call 24; (with_reducible refine (same_any M M B A8 cB c8 w8 (Kd.C_below HC6.out HB8.out) HC8.out).mono ?_); rintro e w9 ⟨rfl, hB9⟩; have HB9 := Aside0.mk (below_step (below_step HB6.out HB8.out) hB9); clear hB9))
    all_goals
      go_ret
      exact ⟨ret_bool (by first | rfl | exact decide_eq_true rfl), HB9.out⟩
theorem more_row (c : Code) (A1 : Option Addr) (c1 : Nat) (A4 : Option Addr) (c4 : Nat) {W : World} (hat : CodeAt W c A1 c1 A4 c4) (hwf : WfCode c) (_ : World) : Calls Try.prog 5 #[codeV c A1 c1 A4 c4] W fun e w' => e = .returned (.bool true) ∧ Below W.heap.size W w' :=
  more_walk c A1 c1 A4 c4 W hat hwf
end Go.Proofs.Ytlkkdpmloeipjaa
