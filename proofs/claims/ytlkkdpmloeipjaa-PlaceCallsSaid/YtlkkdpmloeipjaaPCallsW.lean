/- carlinglaw12.PlaceCalls: the walk. -/
import Derived.Test.YtlkkdpmloeipjaaF4
import Derived.Test.YtlkkdpmloeipjaaI1
import Derived.Test.YtlkkdpmloeipjaaI3
namespace Go.Proofs.Ytlkkdpmloeipjaa
open Go.RowKit Go.Proofs.YtlkkdpmloeipjaaW.PrintWords
set_option linter.unusedVariables false

theorem qCells {W : World} {b : Nat} {v : Value} (h : W.heap[b]? = some (.cells #[.string ⟨#[97, 46, 102]⟩, .slice none 0 0, .int .i64 2, .int .i64 0, v] 25 (0, 0))) :
    W.cell? ⟨b, 0, none⟩ = some (.string ⟨#[97, 46, 102]⟩) ∧ W.cell? ⟨b, 1, none⟩ = some (.slice none 0 0) ∧ W.cell? ⟨b, 2, none⟩ = some (.int .i64 2) ∧ W.cell? ⟨b, 3, none⟩ = some (.int .i64 0) ∧ W.cell? ⟨b, 4, none⟩ = some v :=
  ⟨blk_cell h 0, blk_cell h 1, blk_cell h 2, blk_cell h 3, blk_cell h 4⟩
theorem qLen0 : (([] : List Ir) ++ [qK]).length = 1 := rfl
theorem qLen1 (i : Nat) : ([qK] ++ List.replicate i qY ++ [qY]).length = i + 2 := by rw [List.length_append, List.length_append, List.length_replicate]; show 1 + i + 1 = i + 2; omega
theorem qLen2 (a : Nat) : ([qK] ++ List.replicate a qY ++ [qL]).length = a + 2 := by rw [List.length_append, List.length_append, List.length_replicate]; show 1 + a + 1 = a + 2; omega
theorem qLen3 (a i : Nat) : ([qK] ++ List.replicate a qY ++ [qL] ++ List.replicate i qY ++ [qY]).length = a + i + 3 := by simp; omega
theorem qLen4 (a b : Nat) : ([qK] ++ List.replicate a qY ++ [qL] ++ List.replicate b qY ++ [qT]).length = a + b + 3 := by simp; omega

set_option maxHeartbeats 16000000 in
set_option maxRecDepth 100000 in
theorem pcalls_ok (a b : Nat) (w : World) (ha : a ≤ 20) (hb : b ≤ 20) :
    Calls Try.prog 9 #[.int .i64 a, .int .i64 b] w fun e w' => e = .returned (.bool true) ∧ Below w.heap.size w w' := by
  have hu2 := Try.underlying25
  have hu3 := Try.underlying33
  obtain ⟨p, q, n, hPE, hR0, hn0, hn2, hp3, hq3, hp8, hq8, hB1, hB0⟩ := calls_law ha hb
  have hlen : (cCall a b).l.length = a + b + 3 := qLen4 a b
  have HP := Aside0.mk (show ∀ (W : World) (A4 : Option Addr) (c4 : Nat), CodeAt W (cCall a b) none 0 A4 c4 → Calls Try.prog 31 #[.agg #[.string ⟨#[97, 46, 102]⟩, .slice none 0 0, .int .i64 2, .int .i64 0, .slice A4 (a + b + 3) c4]] W (RetPl W [p, q] n 0) from fun W A4 c4 hat => by
    have h := places_any (cCall a b) none 0 A4 c4 W (ok_call ha hb) hat
    rw [hPE] at h
    simp only [codeV] at h
    rw [hlen] at h
    exact h)
  have HR := Aside0.mk (show ∀ (W : World) (A4 : Option Addr) (c4 : Nat), CodeAt W (cCall a b) none 0 A4 c4 → Calls Try.prog 22 #[.agg #[.string ⟨#[97, 46, 102]⟩, .slice none 0 0, .int .i64 2, .int .i64 0, .slice A4 (a + b + 3) c4]] W (fun e w' => e = .returned (.tuple #[.int .i64 0, .int .i64 (rightE (cCall a b)).2]) ∧ Below W.heap.size W w') from fun W A4 c4 hat => by
    have h := right_any (cCall a b) none 0 A4 c4 W (ok_call ha hb) hat
    rw [hR0] at h
    simp only [codeV] at h
    rw [hlen] at h
    exact h)
  have HK := Aside0.mk (show ∀ (W : World) (A4 : Option Addr) (c4 : Nat) (A : Option Addr) (k : Nat), CodeAt W (cCall a b) none 0 A4 c4 → Kd.C (Kd.int .i64) W A [(4 : Int), 3].length [4, 3] → Calls Try.prog 32 #[.agg #[.string ⟨#[97, 46, 102]⟩, .slice none 0 0, .int .i64 2, .int .i64 0, .slice A4 (a + b + 3) c4], .slice A 2 k, .int .i64 0] W (fun e w' => e = .returned (.bool (checkE (cCall a b) [4, 3] 0)) ∧ Below W.heap.size W w') from fun W A4 c4 A k hat hl => by
    have h := check_any (cCall a b) [4, 3] 0 none 0 A4 c4 A k W (ok_call ha hb) hat hl (by intro p hp; simp at hp; rcases hp with rfl | rfl <;> omega)
    simp only [codeV] at h
    rw [hlen] at h
    exact h)
  have HB1 := Aside0.mk hB1
  have HB0 := Aside0.mk hB0
  clear hB1 hB0 hPE hR0 hlen
  generalize checkE (cCall a b) [4, 3] 0 = kk at *
  generalize (rightE (cCall a b)).2 = r2 at *
  go_enter Try.func9, Try.ntmps9
  go_upto_region 5 with (first
    | (go_at_call 30; (with_reducible refine (awake12_any _).mono ?_); rintro e w1 ⟨rfl, hB1⟩; have HBa := Aside0.mk hB1; clear hB1))
  have HW0 := Aside0.mk (show BuW w w1 (w1.alloc (.cells #[.string ⟨#[97, 46, 102]⟩, .slice none 0 0, .int .i64 2, .int .i64 0, .slice none 0 0] 25)) w1.heap.size 2 (.slice none 0 0) [] from ⟨rfl, HBa.out, below_alloc (Below.refl _ _) _, blk_new _ _, Kd.R_nil _ _ _ _ _⟩)
  go_wp2_with (at_builtin; refine ir_appq w1.heap.size rfl (.tmp 32) (.tmp 34) rfl (.slice none 0 0) [] qK _ 1 rfl rfl (HW0.out.alloc _).own rfl (blk_new1 _ _ _) (w0 := w1) (HW0.out.alloc _).below (by simp; omega) (by simp) ?_; intro v5 w5 hR5 hb5 hg5; obtain ⟨A4, c4, e5, hc4, _⟩ := Kd.R_reads hR5; rw [qLen0] at e5; subst e5; have f5 := blk_frozen ((HW0.out.alloc _).boxed hb5 hg5) 4; have q5 : w5.cell? ⟨w1.heap.size, 4, none⟩ = some (.slice none 0 0) := blk_cell ((HW0.out.alloc _).boxed hb5 hg5) 4; have HW5 := Aside0.mk ((HW0.out.alloc _).step hR5 hb5 hg5); clear hR5 hb5 hg5)
  go_loopw [7] (fun v7 wr => ∃ i : Nat, i ≤ a ∧ v7 = .int .i64 i ∧ ∃ v, Aside0 (BuW w w1 wr w1.heap.size 2 v ([qK] ++ List.replicate i qY)) ∧ Aside0 True) (fun v7 _ => a - (intOf v7).toNat)
  case atStart => exact ⟨0, Nat.zero_le _, rfl, _, HW5, ⟨trivial⟩⟩
  case round =>
    clear HW0 HW5
    obtain ⟨i, hi, rfl, v, HW, _⟩ := hrel
    have q4 : wr.cell? ⟨w1.heap.size, 4, none⟩ = some v := blk_cell HW.out.box 4
    by_cases hlt : i < a
    · go_wp2_with (at_builtin; refine ir_appq w1.heap.size rfl (.tmp 43) (.tmp 45) rfl v ([qK] ++ List.replicate i qY) qY _ 1 rfl rfl (HW.out.alloc _).own rfl (blk_new _ _) (w0 := w1) (HW.out.alloc _).below (by have := HW.out.below.size; simp; omega) (by simp; omega) ?_; intro v5 w5 hR5 hb5 hg5; obtain ⟨A4, c4, e5, hc4, _⟩ := Kd.R_reads hR5; rw [qLen1 i] at e5; subst e5; have f5 := blk_frozen ((HW.out.alloc _).boxed hb5 hg5) 4; have q5 : w5.cell? ⟨w1.heap.size, 4, none⟩ = some v := blk_cell ((HW.out.alloc _).boxed hb5 hg5) 4; have HW5 := Aside0.mk ((HW.out.alloc _).step hR5 hb5 hg5); clear hR5 hb5 hg5 q4)
      go_roundw
      case rel => exact ⟨i + 1, by omega, by go_num, _, ⟨by rw [List.replicate_succ', ← List.append_assoc]; exact HW5.out⟩, ⟨trivial⟩⟩
      case measure => simp [intOf]; omega
    · obtain rfl : i = a := by omega
      generalize wr = wa at *
      go_wp2_with (at_builtin; refine ir_appq w1.heap.size rfl (.tmp 49) (.tmp 51) rfl v ([qK] ++ List.replicate i qY) qL _ 1 rfl rfl (HW.out.alloc _).own rfl (blk_new _ _) (w0 := w1) (HW.out.alloc _).below (by have := HW.out.below.size; simp; omega) (by simp; omega) ?_; intro v5 w5 hR5 hb5 hg5; obtain ⟨A4, c4, e5, hc4, _⟩ := Kd.R_reads hR5; rw [qLen2 i] at e5; subst e5; have f5 := blk_frozen ((HW.out.alloc _).boxed hb5 hg5) 4; have q5 : w5.cell? ⟨w1.heap.size, 4, none⟩ = some v := blk_cell ((HW.out.alloc _).boxed hb5 hg5) 4; have HW5 := Aside0.mk ((HW.out.alloc _).step hR5 hb5 hg5); clear hR5 hb5 hg5 q4)
      clear HW
      go_loopw [8] (fun v8 wr => ∃ j : Nat, j ≤ b ∧ v8 = .int .i64 j ∧ ∃ v, Aside0 (BuW w w1 wr w1.heap.size 2 v ([qK] ++ List.replicate i qY ++ [qL] ++ List.replicate j qY)) ∧ Aside0 True) (fun v8 _ => b - (intOf v8).toNat)
      case atStart => exact ⟨0, Nat.zero_le _, rfl, _, ⟨by rw [List.replicate_zero, List.append_nil]; exact HW5.out⟩, ⟨trivial⟩⟩
      case round =>
        clear HW5
        obtain ⟨j, hj, rfl, v, HW, _⟩ := hrel
        have q4 : wr.cell? ⟨w1.heap.size, 4, none⟩ = some v := blk_cell HW.out.box 4
        by_cases hlt : j < b
        · go_wp2_with (at_builtin; refine ir_appq w1.heap.size rfl (.tmp 60) (.tmp 62) rfl v ([qK] ++ List.replicate i qY ++ [qL] ++ List.replicate j qY) qY _ 1 rfl rfl (HW.out.alloc _).own rfl (blk_new _ _) (w0 := w1) (HW.out.alloc _).below (by have := HW.out.below.size; simp; omega) (by simp; omega) ?_; intro v5 w5 hR5 hb5 hg5; obtain ⟨A4, c4, e5, hc4, _⟩ := Kd.R_reads hR5; rw [qLen3 i j] at e5; subst e5; have f5 := blk_frozen ((HW.out.alloc _).boxed hb5 hg5) 4; have q5 : w5.cell? ⟨w1.heap.size, 4, none⟩ = some v := blk_cell ((HW.out.alloc _).boxed hb5 hg5) 4; have HW5 := Aside0.mk ((HW.out.alloc _).step hR5 hb5 hg5); clear hR5 hb5 hg5 q4)
          go_roundw
          case rel => exact ⟨j + 1, by omega, by go_num, _, ⟨by rw [List.replicate_succ', ← List.append_assoc]; exact HW5.out⟩, ⟨trivial⟩⟩
          case measure => simp [intOf]; omega
        · obtain rfl : j = b := by omega
          generalize wr = wb at *
          go_upto_region 18 with (first
            | (at_builtin; refine ir_appq w1.heap.size rfl (.tmp 66) (.tmp 68) rfl v ([qK] ++ List.replicate i qY ++ [qL] ++ List.replicate j qY) qT _ 1 rfl rfl (HW.out.alloc _).own rfl (blk_new _ _) (w0 := w1) (HW.out.alloc _).below (by have := HW.out.below.size; simp; omega) (by simp; omega) ?_; intro v5 w5 hR5 hb5 hg5; obtain ⟨A4, c4, e5, hc4, _⟩ := Kd.R_reads hR5; rw [qLen4 i j] at e5; subst e5; have f5 := blk_frozen ((HW.out.alloc _).boxed hb5 hg5) 4; have q5 : w5.cell? ⟨w1.heap.size, 4, none⟩ = some v := blk_cell ((HW.out.alloc _).boxed hb5 hg5) 4; have HW5 := Aside0.mk ((HW.out.alloc _).step hR5 hb5 hg5); obtain ⟨k0, k1, k2, k3, k4⟩ := qCells HW5.out.box; have HAt := Aside0.mk (show CodeAt _ (cCall i j) none 0 A4 c4 from HW5.out.code (qLen4 i j).symm); clear hR5 hb5 hg5 q4)
            | (go_at_call 31; (with_reducible refine (HP.out _ A4 c4 HAt.out).mono ?_); rintro e w7 ⟨A, k, rfl, hk, hC, hB7⟩; have HBp := Aside0.mk hB7; have HC := Aside0.mk hC; have HX7 := Aside0.mk (blk_below HW5.out.box hB7); clear hB7 hC k0 k1 k2 k3 k4 f5 q5; obtain ⟨k0, k1, k2, k3, k4⟩ := qCells HX7.out)
            | (go_at_call 22; (with_reducible refine (HR.out w7 A4 c4 (HAt.out.below HBp.out)).mono ?_); rintro e w8 ⟨rfl, hB8⟩; have HB8 := Aside0.mk hB8; have HX8 := Aside0.mk (blk_below HX7.out hB8); clear hB8 k0 k1 k2 k3 k4; obtain ⟨k0, k1, k2, k3, k4⟩ := qCells HX8.out))
          obtain ⟨ad, x0, rfl, e0, h0⟩ := nt_scalar HC.out HB8.out 0 (by simp)
          obtain ⟨ad', x1, e', e1, h1⟩ := nt_scalar HC.out HB8.out 1 (by simp)
          injection e' with e'
          subst e'
          obtain rfl : p = x0 := Option.some.inj e0
          obtain rfl : q = x1 := Option.some.inj e1
          simp only [Addr.add_zero', Addr.add_succ', Nat.add_assoc, Nat.reduceAdd] at h0 h1
          have HAt8 := Aside0.mk ((HAt.out.below HBp.out).below HB8.out)
          have HBt := Aside0.mk (below_step (below_step HW5.out.all HBp.out) HB8.out)
          by_cases hj0 : 0 < j
          · obtain ⟨hp, hk⟩ := HB1.out hj0
            have HK1 := HK
            rw [hk] at HK1
            have hj1 : (0 : Int) < (j : Int) := by omega
            clear hk HK
            go_wp2_with (go_at_call 32; (with_reducible refine (HK1.out _ A4 c4 _ _ (HAt8.out.below (below_alloc (Below.refl _ _) _)) (C_ints2 (blk_new _ _))).mono ?_); rintro e w9 ⟨rfl, hB9⟩; have HB9 := Aside0.mk (below_step (below_alloc (Below.refl _ _) _) hB9); clear hB9)
            go_ret
            exact ⟨rfl, below_step HBt.out HB9.out⟩
          · obtain rfl : j = 0 := by omega
            obtain ⟨hk, hn⟩ := HB0.out rfl
            subst hn
            have HK1 := HK
            rw [hk] at HK1
            clear hk HK
            go_wp2_with (go_at_call 32; (with_reducible refine (HK1.out _ A4 c4 _ _ (HAt8.out.below (below_alloc (Below.refl _ _) _)) (C_ints2 (blk_new _ _))).mono ?_); rintro e w9 ⟨rfl, hB9⟩; have HB9 := Aside0.mk (below_step (below_alloc (Below.refl _ _) _) hB9); clear hB9)
            go_ret
            exact ⟨rfl, below_step HBt.out HB9.out⟩

set_option maxHeartbeats 4000000 in
set_option maxRecDepth 100000 in
theorem pcalls_walk (ahead behind : Int) (w : World) :
    Calls Try.prog 9 #[.int .i64 ahead, .int .i64 behind] w fun e w' => e = .returned (.bool true) ∧ Below w.heap.size w w' := by
  by_cases h : 0 ≤ ahead ∧ ahead ≤ 20 ∧ 0 ≤ behind ∧ behind ≤ 20
  · obtain ⟨h1, h2, h3, h4⟩ := h
    have := pcalls_ok ahead.toNat behind.toNat w (by omega) (by omega)
    rwa [show ((ahead.toNat : Nat) : Int) = ahead by omega, show ((behind.toNat : Nat) : Int) = behind by omega] at this
  · rcases (show ahead < 0 ∨ (¬ ahead < 0 ∧ 20 < ahead) ∨ (¬ ahead < 0 ∧ ¬ 20 < ahead ∧ behind < 0) ∨ (¬ ahead < 0 ∧ ¬ 20 < ahead ∧ ¬ behind < 0 ∧ 20 < behind) from by omega) with h1 | ⟨h1, h2⟩ | ⟨h1, h2, h3⟩ | ⟨h1, h2, h3, h4⟩
    all_goals
      clear h
      go_enter Try.func9, Try.ntmps9
      go_wp2_with (go_at_call 30; (with_reducible refine (awake12_any _).mono ?_); rintro e w1 ⟨rfl, hB1⟩; have HBa := Aside0.mk hB1; clear hB1)
      go_ret
      exact ⟨rfl, HBa.out⟩
theorem pcalls_row (ahead : Int) (_ : (Lit.int .i64 ahead).wf = true) (behind : Int) (_ : (Lit.int .i64 behind).wf = true) (w : World) :
    Calls Try.prog 9 #[.int .i64 ahead, .int .i64 behind] w fun e w' => e = .returned (.bool true) ∧ Below w.heap.size w w' :=
  pcalls_walk ahead behind w
end Go.Proofs.Ytlkkdpmloeipjaa
