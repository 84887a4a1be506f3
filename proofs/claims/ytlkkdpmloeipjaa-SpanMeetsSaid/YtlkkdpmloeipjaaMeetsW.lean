/- carlinglaw11.SpanMeets: the walk. -/
import Derived.Test.YtlkkdpmloeipjaaA15
import Derived.Deep.RegionHeld3
namespace Go.Proofs.Ytlkkdpmloeipjaa
open Go.RowKit Go.Proofs.YtlkkdpmloeipjaaW.PrintWords
set_option linter.unusedVariables false

theorem meetB_comm (a b : Sp) : meetB a b = meetB b a := by
  rw [Bool.eq_iff_iff]
  simp only [meetB, Bool.and_eq_true, decide_eq_true_eq]
  omega

theorem sp_boxes {w w' : World} {a0 a1 b0 b1 : Int} (h : Below (w.heap.size + 2) ((w.alloc (.cells #[.int .i64 a0, .int .i64 a1] 26 (0, 0))).alloc (.cells #[.int .i64 b0, .int .i64 b1] 26 (0, 0))) w') :
    Below (w.heap.size + 2) ((w.alloc (.cells #[.int .i64 a0, .int .i64 a1] 26 (0, 0))).alloc (.cells #[.int .i64 b0, .int .i64 b1] 26 (0, 0))) w' ∧ w'.cell? ⟨w.heap.size, 0, none⟩ = some (.int .i64 a0) ∧ w'.cell? ⟨w.heap.size, 1, none⟩ = some (.int .i64 a1) ∧ w'.cell? ⟨w.heap.size + 1, 0, none⟩ = some (.int .i64 b0) ∧ w'.cell? ⟨w.heap.size + 1, 1, none⟩ = some (.int .i64 b1) :=
  ⟨h, box2_fst h 0, box2_fst h 1, box2_snd h 0, box2_snd h 1⟩

set_option maxHeartbeats 4000000 in
theorem spanMeets_any (a b : Sp) (w : World) :
    Calls Try.prog 4 #[spV a, spV b] w fun e w' => e = .returned (.bool true) ∧ Below w.heap.size w w' := by
  have H1 := Aside0.mk (fun W => meet_any a b W)
  have H2 := Aside0.mk (fun W => rmeet_any a b W)
  have H3 := Aside0.mk (fun W => meet_any b a W)
  rw [meetB_comm b a] at H3
  generalize meetB a b = m at *
  obtain ⟨a0, a1⟩ := a
  obtain ⟨b0, b1⟩ := b
  simp only [spV] at *
  go_enter Try.func4, Try.ntmps4
  go_wp2_with (first
    | (go_at_call 17; (with_reducible refine (awake_any _).mono ?_); rintro e w1 ⟨rfl, hB1⟩; have HB1 := Aside0.mk hB1; clear hB1))
  have HB := Aside0.mk (box2_of HB1.out)
  clear HB1
  go_region_held3 (fun w' => Below (w.heap.size + 2) ((w.alloc (.cells #[.int .i64 a0, .int .i64 a1] 26)).alloc (.cells #[.int .i64 b0, .int .i64 b1] 26)) w' ∧ w'.cell? ⟨w.heap.size, 0, none⟩ = some (.int .i64 a0) ∧ w'.cell? ⟨w.heap.size, 1, none⟩ = some (.int .i64 a1) ∧ w'.cell? ⟨w.heap.size + 1, 0, none⟩ = some (.int .i64 b0) ∧ w'.cell? ⟨w.heap.size + 1, 1, none⟩ = some (.int .i64 b1))
    (first | exact sp_boxes (below_drew1 HB.out) | exact sp_boxes (box2_step (And.left ‹Below _ _ _ ∧ _›) hB2))
    (first
      | (go_at_call 20; (with_reducible refine (H1.out _).mono ?_); rintro e w2 ⟨rfl, hB2⟩)
      | (go_at_call 21; (with_reducible refine (H2.out _).mono ?_); rintro e w2 ⟨rfl, hB2⟩)
      | (go_at_call 20; (with_reducible refine (H3.out _).mono ?_); rintro e w2 ⟨rfl, hB2⟩))
  go_wp2
  go_ret
  exact ⟨ret_bool (by first | rfl | (cases m <;> rfl)), box2_below (And.left ‹Below _ _ _ ∧ _›)⟩
theorem meets_row (a : Sp) (_ : (Lit.int .i64 a.lo).wf = true) (_ : (Lit.int .i64 a.hi).wf = true) (b : Sp) (_ : (Lit.int .i64 b.lo).wf = true) (_ : (Lit.int .i64 b.hi).wf = true) (w : World) :
    Calls Try.prog 4 #[spV a, spV b] w fun e w' => e = .returned (.bool true) ∧ Below w.heap.size w w' := spanMeets_any a b w
end Go.Proofs.Ytlkkdpmloeipjaa
