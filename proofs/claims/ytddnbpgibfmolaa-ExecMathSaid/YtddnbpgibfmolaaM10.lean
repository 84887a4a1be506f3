/- mach.Right: may an instruction of the machine be? The same as carlingref13.Right. -/
import Derived.Test.YtddnbpgibfmolaaM9
namespace Go.Proofs.Ytddnbpgibfmolaa
open Go.RowKit Go.Proofs.YtddnbpgibfmolaaW.PrintWords
set_option linter.unusedVariables false

theorem box_lt {w wr : World} {o : Go.Obj} (h : Below (w.heap.size + 1) (w.alloc o) wr) : w.heap.size < wr.heap.size := by
  have h1 := h.size
  rw [World.size_alloc] at h1
  exact h1
def fineR (h : Bool) (n : Int) : Bool := decide (0 ≤ n ∧ n ≤ 7) && (h || decide (n = 0))
def flB (hO hD hA hB hN : Bool) (o d a b n : Int) : Bool := fineR hD d && (fineR hA a && (fineR hB b && ((if hO = true then decide (1 ≤ o ∧ o ≤ 10) else decide (o = 0)) && (hN || decide (n = 0)))))
theorem fine_cases (h : Bool) (n : Int) : (fineR h n = false ∧ (n < 0 ∨ (¬ n < 0 ∧ 8 ≤ n) ∨ (¬ n < 0 ∧ ¬ 8 ≤ n ∧ 0 < n ∧ h = false))) ∨ (fineR h n = true ∧ ¬ n < 0 ∧ ¬ 8 ≤ n ∧ ((0 < n ∧ h = true) ∨ ¬ 0 < n)) := by
  unfold fineR
  by_cases h1 : n < 0
  · exact .inl ⟨by simp; omega, .inl h1⟩
  by_cases h2 : 8 ≤ n
  · exact .inl ⟨by simp; omega, .inr (.inl ⟨h1, h2⟩)⟩
  by_cases h3 : 0 < n
  · cases h
    · exact .inl ⟨by simp; omega, .inr (.inr ⟨h1, h2, h3, rfl⟩)⟩
    · exact .inr ⟨by simp; omega, h1, h2, .inl ⟨h3, rfl⟩⟩
  · exact .inr ⟨by have : n = 0 := by omega
                   subst this; simp, h1, h2, .inr h3⟩

theorem mi_parts0 {x : Mi} (h : miB x = true) : 1 ≤ x.kind ∧ x.kind ≤ 9 := by
  refine Decidable.byContradiction (fun hc => ?_)
  unfold miB at h
  rw [if_neg (by omega), if_neg (by omega), if_neg (by omega), if_neg (by omega), if_neg (by omega), if_neg (by omega), Bool.and_false] at h
  cases h

set_option maxHeartbeats 16000000 in
set_option maxRecDepth 100000 in
theorem mr_fl (k o d a b n : Int) (hO hD hA hB hN : Bool) (w : World) (hk : ¬ k < 1) (hk2 : ¬ 9 < k)
    (hc : ∀ W, Calls Try.prog 76 #[.int .i64 k] W fun e w' => e = .returned (.agg #[.bool hO, .bool hD, .bool hA, .bool hB, .bool hN]) ∧ Below W.heap.size W w') :
    Calls Try.prog 64 #[miV ⟨k, o, d, a, b, n⟩] w fun e w' => e = .returned (.bool (flB hO hD hA hB hN o d a b n)) ∧ Below w.heap.size w w' := by
  have hu := Try.underlying27
  have HC := Aside0.mk hc
  clear hc
  simp only [miV]
  have i0 : ∀ W, (Instr.index 122 (.agg #[.int .i64 d, .int .i64 a, .int .i64 b]) (.int .i64 0)).run Try.prog W = .ok (.int .i64 d) W := fun _ => by kernel_rfl
  have i1 : ∀ W, (Instr.index 122 (.agg #[.int .i64 d, .int .i64 a, .int .i64 b]) (.int .i64 1)).run Try.prog W = .ok (.int .i64 a) W := fun _ => by kernel_rfl
  have i2 : ∀ W, (Instr.index 122 (.agg #[.int .i64 d, .int .i64 a, .int .i64 b]) (.int .i64 2)).run Try.prog W = .ok (.int .i64 b) W := fun _ => by kernel_rfl
  have hnot : ∀ (x : Bool) (W : World), (Op.unary .not (.bool x)).run Try.prog W = .ok (.bool (!x)) W := fun _ _ => rfl
  have HX := Aside0.mk (fun (W : World) (h : Below (w.heap.size + 1) (w.alloc (.cells #[.int .i64 k, .int .i64 o, .int .i64 d, .int .i64 a, .int .i64 b, .int .u32 n] 27)) W) => (show W.cell? ⟨w.heap.size, 0, none⟩ = some (.int .i64 k) ∧ W.cell? ⟨w.heap.size, 1, none⟩ = some (.int .i64 o) ∧ W.cell? ⟨w.heap.size, 2, none⟩ = some (.int .i64 d) ∧ W.cell? ⟨w.heap.size, 3, none⟩ = some (.int .i64 a) ∧ W.cell? ⟨w.heap.size, 4, none⟩ = some (.int .i64 b) ∧ W.cell? ⟨w.heap.size, 5, none⟩ = some (.int .u32 n) from
    ⟨box_cells h 0, box_cells h 1, box_cells h 2, box_cells h 3, box_cells h 4, box_cells h 5⟩))
  go_enter Try.func64, Try.ntmps64
  go_wp2_with (go_at_call 76; (with_reducible refine (HC.out _).mono ?_); go_loud (rintro e w1 ⟨rfl, hB1⟩; have HB1 := Aside0.mk (show Below (w.heap.size + 1) _ w1 from by simpa using hB1); clear hB1; have hlt : w.heap.size < w1.heap.size := box_lt HB1.out; obtain ⟨g0, g1, g2, g3, g4, g5⟩ := HX.out w1 HB1.out))
  go_loop [24] (fun v24 => ∃ j : Nat, j ≤ 3 ∧ v24 = .int .i64 j ∧ Aside0 ((0 < j → fineR hD d = true) ∧ (1 < j → fineR hA a = true) ∧ (2 < j → fineR hB b = true))) (fun v24 => 3 - (intOf v24).toNat)
  case atStart => exact ⟨0, Nat.zero_le _, rfl, ⟨by omega, by omega, by omega⟩⟩
  case round =>
    obtain ⟨j, hj, rfl, HJ⟩ := hrel
    rcases (show j = 0 ∨ j = 1 ∨ j = 2 ∨ j = 3 by omega) with rfl | rfl | rfl | rfl
    · rcases fine_cases hD d with ⟨hf, hq⟩ | ⟨hf, q1, q2, hq⟩
      · have HF := Aside0.mk (show flB hO hD hA hB hN o d a b n = false by unfold flB; rw [hf]; simp)
        clear hf
        rcases hq with hq | ⟨q1, hq⟩ | ⟨q1, q2, q3, rfl⟩
        all_goals
          go_wp2
          go_ret
          exact ⟨ret_bool HF.out.symm, below_of_box (box_alloc HB1.out)⟩
      · have HF := Aside0.mk hf
        clear hf
        rcases hq with ⟨q3, rfl⟩ | q3
        all_goals
          go_wp2
          go_round
          case rel => exact ⟨1, by omega, rfl, ⟨fun _ => HF.out, fun _ => by omega, fun _ => by omega⟩⟩
          case measure => simp [intOf]
    · rcases fine_cases hA a with ⟨hf, hq⟩ | ⟨hf, q1, q2, hq⟩
      · have HF := Aside0.mk (show flB hO hD hA hB hN o d a b n = false by unfold flB; rw [HJ.out.1 (by omega)]; rw [hf]; simp)
        clear hf
        rcases hq with hq | ⟨q1, hq⟩ | ⟨q1, q2, q3, rfl⟩
        all_goals
          go_wp2
          go_ret
          exact ⟨ret_bool HF.out.symm, below_of_box (box_alloc HB1.out)⟩
      · have HF := Aside0.mk hf
        clear hf
        rcases hq with ⟨q3, rfl⟩ | q3
        all_goals
          go_wp2
          go_round
          case rel => exact ⟨2, by omega, rfl, ⟨fun _ => HJ.out.1 (by omega), fun _ => HF.out, fun _ => by omega⟩⟩
          case measure => simp [intOf]
    · rcases fine_cases hB b with ⟨hf, hq⟩ | ⟨hf, q1, q2, hq⟩
      · have HF := Aside0.mk (show flB hO hD hA hB hN o d a b n = false by unfold flB; rw [HJ.out.1 (by omega)]; rw [HJ.out.2.1 (by omega)]; rw [hf]; simp)
        clear hf
        rcases hq with hq | ⟨q1, hq⟩ | ⟨q1, q2, q3, rfl⟩
        all_goals
          go_wp2
          go_ret
          exact ⟨ret_bool HF.out.symm, below_of_box (box_alloc HB1.out)⟩
      · have HF := Aside0.mk hf
        clear hf
        rcases hq with ⟨q3, rfl⟩ | q3
        all_goals
          go_wp2
          go_round
          case rel => exact ⟨3, by omega, rfl, ⟨fun _ => HJ.out.1 (by omega), fun _ => HJ.out.2.1 (by omega), fun _ => HF.out⟩⟩
          case measure => simp [intOf]
    · have HS := Aside0.mk (show flB hO hD hA hB hN o d a b n = ((if hO = true then decide (1 ≤ o ∧ o ≤ 10) else decide (o = 0)) && (hN || decide (n = 0))) by unfold flB; rw [HJ.out.1 (by omega), HJ.out.2.1 (by omega), HJ.out.2.2 (by omega)]; simp)
      cases hO
      · by_cases ho : o = 0
        · subst ho
          cases hN
          · by_cases hz : n = 0
            · subst hz
              go_wp2
              go_ret
              exact ⟨ret_bool (by rw [HS.out]; simp), below_of_box (box_alloc HB1.out)⟩
            · have hzb : (n == 0) = false := beq_eq_false_iff_ne.2 hz
              have HF := Aside0.mk hz
              clear hz
              go_wp2
              go_ret
              exact ⟨ret_bool (by rw [HS.out]; have := HF.out; simp [this]), below_of_box (box_alloc HB1.out)⟩
          · go_wp2
            go_ret
            exact ⟨ret_bool (by rw [HS.out]; simp), below_of_box (box_alloc HB1.out)⟩
        · have hob : (o != 0) = true := by simp [ho]
          have HF := Aside0.mk ho
          clear ho
          go_wp2
          go_ret
          exact ⟨ret_bool (by rw [HS.out]; have := HF.out; simp [this]), below_of_box (box_alloc HB1.out)⟩
      · by_cases ho : o < 1
        · go_wp2
          go_ret
          exact ⟨ret_bool (by rw [HS.out]; simp; intro h; omega), below_of_box (box_alloc HB1.out)⟩
        · by_cases ho2 : 10 < o
          · go_wp2
            go_ret
            exact ⟨ret_bool (by rw [HS.out]; simp; intro h h2; omega), below_of_box (box_alloc HB1.out)⟩
          · have HF := Aside0.mk (show decide (1 ≤ o ∧ o ≤ 10) = true by simp; omega)
            cases hN
            · by_cases hz : n = 0
              · subst hz
                go_wp2
                go_ret
                exact ⟨ret_bool (by rw [HS.out, HF.out]; simp), below_of_box (box_alloc HB1.out)⟩
              · have hzb : (n == 0) = false := beq_eq_false_iff_ne.2 hz
                have HZ := Aside0.mk hz
                clear hz
                go_wp2
                go_ret
                exact ⟨ret_bool (by rw [HS.out, HF.out]; have := HZ.out; simp [this]), below_of_box (box_alloc HB1.out)⟩
            · go_wp2
              go_ret
              exact ⟨ret_bool (by rw [HS.out, HF.out]; simp), below_of_box (box_alloc HB1.out)⟩

set_option maxHeartbeats 1000000 in
theorem mr_no (x : Mi) (w : World) (hk : x.kind < 1 ∨ 9 < x.kind) : Calls Try.prog 64 #[miV x] w fun e w' => e = .returned (.bool (miB x)) ∧ Below w.heap.size w w' := by
  have HF := Aside0.mk (show miB x = false by
    cases h : miB x with
    | false => rfl
    | true => have := mi_parts0 h; omega)
  obtain ⟨k, o, d, a, b, n⟩ := x
  have hu := Try.underlying27
  simp only [miV] at *
  rcases (show k < 1 ∨ (¬ k < 1 ∧ 9 < k) by omega) with hk | ⟨hk, hk2⟩
  all_goals
    go_enter Try.func64, Try.ntmps64
    go_wp2
    go_ret
    exact ⟨ret_bool HF.out.symm, below_alloc (Below.refl _ _) _⟩

theorem mright_any (x : Mi) (w : World) : Calls Try.prog 64 #[miV x] w fun e w' => e = .returned (.bool (miB x)) ∧ Below w.heap.size w w' := by
  by_cases hk : x.kind < 1 ∨ 9 < x.kind
  · exact mr_no x w hk
  obtain ⟨k, o, d, a, b, n⟩ := x
  simp only at hk
  rcases (show k = 1 ∨ k = 2 ∨ k = 3 ∨ k = 4 ∨ k = 5 ∨ k = 6 ∨ k = 7 ∨ k = 8 ∨ k = 9 by omega) with rfl | rfl | rfl | rfl | rfl | rfl | rfl | rfl | rfl
  · have := mr_fl 1 o d a b n false true false false true w (by decide) (by decide) has_1
    rwa [show flB false true false false true o d a b n = miB ⟨1, o, d, a, b, n⟩ by (rw [Bool.eq_iff_iff]; simp [flB, fineR, miB]; omega)] at this
  · have := mr_fl 2 o d a b n false true true false false w (by decide) (by decide) has_2
    rwa [show flB false true true false false o d a b n = miB ⟨2, o, d, a, b, n⟩ by (rw [Bool.eq_iff_iff]; simp [flB, fineR, miB]; omega)] at this
  · have := mr_fl 3 o d a b n true true true true false w (by decide) (by decide) has_3
    rwa [show flB true true true true false o d a b n = miB ⟨3, o, d, a, b, n⟩ by (rw [Bool.eq_iff_iff]; simp [flB, fineR, miB]; omega)] at this
  · have := mr_fl 4 o d a b n false true false false true w (by decide) (by decide) has_4
    rwa [show flB false true false false true o d a b n = miB ⟨4, o, d, a, b, n⟩ by (rw [Bool.eq_iff_iff]; simp [flB, fineR, miB]; omega)] at this
  · have := mr_fl 5 o d a b n false false true false true w (by decide) (by decide) has_5
    rwa [show flB false false true false true o d a b n = miB ⟨5, o, d, a, b, n⟩ by (rw [Bool.eq_iff_iff]; simp [flB, fineR, miB]; omega)] at this
  · have := mr_fl 6 o d a b n false false false false true w (by decide) (by decide) has_6
    rwa [show flB false false false false true o d a b n = miB ⟨6, o, d, a, b, n⟩ by (rw [Bool.eq_iff_iff]; simp [flB, fineR, miB]; omega)] at this
  · have := mr_fl 7 o d a b n false false true false true w (by decide) (by decide) has_7
    rwa [show flB false false true false true o d a b n = miB ⟨7, o, d, a, b, n⟩ by (rw [Bool.eq_iff_iff]; simp [flB, fineR, miB]; omega)] at this
  · have := mr_fl 8 o d a b n false false false false true w (by decide) (by decide) has_8
    rwa [show flB false false false false true o d a b n = miB ⟨8, o, d, a, b, n⟩ by (rw [Bool.eq_iff_iff]; simp [flB, fineR, miB]; omega)] at this
  · have := mr_fl 9 o d a b n false false false false false w (by decide) (by decide) has_9
    rwa [show flB false false false false false o d a b n = miB ⟨9, o, d, a, b, n⟩ by (rw [Bool.eq_iff_iff]; simp [flB, fineR, miB]; omega)] at this
end Go.Proofs.Ytddnbpgibfmolaa
