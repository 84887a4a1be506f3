/- word.Op: two words, reckoned. -/
import Derived.Test.YtddnbpgibfmolaaX1
namespace Go.Proofs.Ytddnbpgibfmolaa
open Go.RowKit Go.Proofs.YtddnbpgibfmolaaW.PrintWords
set_option linter.unusedVariables false

theorem quiet_left {P : Program} {f : FuncId} {args : Array Value} {w : World} {n : Nat} {v : Value} (h : Calls P f args (w.drewN n) fun e w' => e = .returned v ∧ w.drewN n = w') : Calls P f args (w.drewN n) fun e w'' => e = .returned v ∧ ∃ m, w'' = w.drewN m :=
  h.mono fun _ _ ⟨he, hm⟩ => ⟨he, n, hm.symm⟩
set_option maxHeartbeats 400000 in
theorem one_any (b : Bool) (w : World) : Calls Try.prog 77 #[.bool b] w fun e w' => e = .returned (.int .u32 (if b = true then 1 else 0)) ∧ w = w' := by
  cases b
  all_goals
    go_enter Try.func77, Try.ntmps77
    go_wp2
    go_ret
    exact ⟨rfl, rfl⟩
set_option maxHeartbeats 4000000 in
theorem wop_1 (a b : Int) (w : World) (ha : u32 a) (hb : u32 b) :
    Calls Try.prog 66 #[.int .i64 1, .int .u32 a, .int .u32 b] w fun e w' => e = .returned (.tuple #[.int .u32 (opE 1 a b), .bool true]) ∧ w = w' := by
  obtain ⟨a0, a1⟩ := ha
  obtain ⟨b0, b1⟩ := hb
  go_enter Try.func66, Try.ntmps66
  go_wp2
  go_ret2
  exact ⟨rfl, rfl⟩
set_option maxHeartbeats 4000000 in
theorem wop_2 (a b : Int) (w : World) (ha : u32 a) (hb : u32 b) :
    Calls Try.prog 66 #[.int .i64 2, .int .u32 a, .int .u32 b] w fun e w' => e = .returned (.tuple #[.int .u32 (opE 2 a b), .bool true]) ∧ w = w' := by
  obtain ⟨a0, a1⟩ := ha
  obtain ⟨b0, b1⟩ := hb
  go_enter Try.func66, Try.ntmps66
  go_wp2
  go_ret2
  exact ⟨rfl, rfl⟩
set_option maxHeartbeats 4000000 in
theorem wop_3 (a b : Int) (w : World) (ha : u32 a) (hb : u32 b) :
    Calls Try.prog 66 #[.int .i64 3, .int .u32 a, .int .u32 b] w fun e w' => e = .returned (.tuple #[.int .u32 (opE 3 a b), .bool true]) ∧ w = w' := by
  obtain ⟨a0, a1⟩ := ha
  obtain ⟨b0, b1⟩ := hb
  go_enter Try.func66, Try.ntmps66
  go_wp2
  go_ret2
  exact ⟨rfl, rfl⟩
set_option maxHeartbeats 4000000 in
theorem wop_7 (a b : Int) (w : World) (ha : u32 a) (hb : u32 b) :
    Calls Try.prog 66 #[.int .i64 7, .int .u32 a, .int .u32 b] w fun e w' => e = .returned (.tuple #[.int .u32 (opE 7 a b), .bool true]) ∧ w = w' := by
  obtain ⟨a0, a1⟩ := ha
  obtain ⟨b0, b1⟩ := hb
  go_enter Try.func66, Try.ntmps66
  go_wp2
  go_ret2
  exact ⟨rfl, rfl⟩
set_option maxHeartbeats 4000000 in
theorem wop_8 (a b : Int) (w : World) (ha : u32 a) (hb : u32 b) :
    Calls Try.prog 66 #[.int .i64 8, .int .u32 a, .int .u32 b] w fun e w' => e = .returned (.tuple #[.int .u32 (opE 8 a b), .bool true]) ∧ w = w' := by
  obtain ⟨a0, a1⟩ := ha
  obtain ⟨b0, b1⟩ := hb
  go_enter Try.func66, Try.ntmps66
  go_wp2
  go_ret2
  exact ⟨rfl, rfl⟩
set_option maxHeartbeats 4000000 in
theorem wop_4 (a b : Int) (w : World) (ha : u32 a) (hb : u32 b) :
    Calls Try.prog 66 #[.int .i64 4, .int .u32 a, .int .u32 b] w fun e w' => e = .returned (.tuple #[.int .u32 (opE 4 a b), .bool true]) ∧ w = w' := by
  obtain ⟨a0, a1⟩ := ha
  obtain ⟨b0, b1⟩ := hb
  have HF := Aside0.mk (show bits .and .u32 a b = opE 4 a b from u32_and a b a0 a1 b0 b1)
  generalize opE 4 a b = r at *
  go_enter Try.func66, Try.ntmps66
  go_wp2
  go_ret2
  exact ⟨by rw [← HF.out]; rfl, rfl⟩
set_option maxHeartbeats 4000000 in
theorem wop_5 (a b : Int) (w : World) (ha : u32 a) (hb : u32 b) :
    Calls Try.prog 66 #[.int .i64 5, .int .u32 a, .int .u32 b] w fun e w' => e = .returned (.tuple #[.int .u32 (opE 5 a b), .bool true]) ∧ w = w' := by
  obtain ⟨a0, a1⟩ := ha
  obtain ⟨b0, b1⟩ := hb
  have HF := Aside0.mk (show bits .or .u32 a b = opE 5 a b from u32_or a b a0 a1 b0 b1)
  generalize opE 5 a b = r at *
  go_enter Try.func66, Try.ntmps66
  go_wp2
  go_ret2
  exact ⟨by rw [← HF.out]; rfl, rfl⟩
set_option maxHeartbeats 4000000 in
theorem wop_6 (a b : Int) (w : World) (ha : u32 a) (hb : u32 b) :
    Calls Try.prog 66 #[.int .i64 6, .int .u32 a, .int .u32 b] w fun e w' => e = .returned (.tuple #[.int .u32 (opE 6 a b), .bool true]) ∧ w = w' := by
  obtain ⟨a0, a1⟩ := ha
  obtain ⟨b0, b1⟩ := hb
  have HF := Aside0.mk (show bits .xor .u32 a b = opE 6 a b from u32_xor a b a0 a1 b0 b1)
  generalize opE 6 a b = r at *
  go_enter Try.func66, Try.ntmps66
  go_wp2
  go_ret2
  exact ⟨by rw [← HF.out]; rfl, rfl⟩
set_option maxHeartbeats 4000000 in
theorem wop_9 (a b : Int) (w : World) (ha : u32 a) (hb : u32 b) :
    Calls Try.prog 66 #[.int .i64 9, .int .u32 a, .int .u32 b] w fun e w' => e = .returned (.tuple #[.int .u32 (opE 9 a b), .bool true]) ∧ w = w' := by
  by_cases h : a < b
  · have HF := Aside0.mk (show opE 9 a b = 1 by simp [opE, h])
    have hd : decide (a < b) = true := decide_eq_true h
    clear h
    go_enter Try.func66, Try.ntmps66
    go_wp2_with (go_at_call 77; (with_reducible refine (one_any true _).mono ?_); rintro e w' ⟨rfl, rfl⟩)
    go_ret2
    exact ⟨by rw [HF.out]; rfl, rfl⟩
  · have HF := Aside0.mk (show opE 9 a b = 0 by simp [opE, h])
    have hd : decide (a < b) = false := decide_eq_false h
    clear h
    go_enter Try.func66, Try.ntmps66
    go_wp2_with (go_at_call 77; (with_reducible refine (one_any false _).mono ?_); rintro e w' ⟨rfl, rfl⟩)
    go_ret2
    exact ⟨by rw [HF.out]; rfl, rfl⟩
set_option maxHeartbeats 4000000 in
theorem wop_10 (a b : Int) (w : World) (ha : u32 a) (hb : u32 b) :
    Calls Try.prog 66 #[.int .i64 10, .int .u32 a, .int .u32 b] w fun e w' => e = .returned (.tuple #[.int .u32 (opE 10 a b), .bool true]) ∧ w = w' := by
  by_cases h : a = b
  · have HF := Aside0.mk (show opE 10 a b = 1 by simp [opE, h])
    have hd : (a == b) = true := beq_iff_eq.2 h
    clear h
    go_enter Try.func66, Try.ntmps66
    go_wp2_with (go_at_call 77; (with_reducible refine (one_any true _).mono ?_); rintro e w' ⟨rfl, rfl⟩)
    go_ret2
    exact ⟨by rw [HF.out]; rfl, rfl⟩
  · have HF := Aside0.mk (show opE 10 a b = 0 by simp [opE, h])
    have hd : (a == b) = false := beq_eq_false_iff_ne.2 h
    clear h
    go_enter Try.func66, Try.ntmps66
    go_wp2_with (go_at_call 77; (with_reducible refine (one_any false _).mono ?_); rintro e w' ⟨rfl, rfl⟩)
    go_ret2
    exact ⟨by rw [HF.out]; rfl, rfl⟩
theorem wop_any (op a b : Int) (w : World) (h1 : 1 ≤ op) (h2 : op ≤ 10) (ha : u32 a) (hb : u32 b) :
    Calls Try.prog 66 #[.int .i64 op, .int .u32 a, .int .u32 b] w fun e w' => e = .returned (.tuple #[.int .u32 (opE op a b), .bool true]) ∧ w = w' := by
  rcases (show op = 1 ∨ op = 2 ∨ op = 3 ∨ op = 4 ∨ op = 5 ∨ op = 6 ∨ op = 7 ∨ op = 8 ∨ op = 9 ∨ op = 10 by omega) with rfl | rfl | rfl | rfl | rfl | rfl | rfl | rfl | rfl | rfl
  · exact wop_1 a b w ha hb
  · exact wop_2 a b w ha hb
  · exact wop_3 a b w ha hb
  · exact wop_4 a b w ha hb
  · exact wop_5 a b w ha hb
  · exact wop_6 a b w ha hb
  · exact wop_7 a b w ha hb
  · exact wop_8 a b w ha hb
  · exact wop_9 a b w ha hb
  · exact wop_10 a b w ha hb
end Go.Proofs.Ytddnbpgibfmolaa
