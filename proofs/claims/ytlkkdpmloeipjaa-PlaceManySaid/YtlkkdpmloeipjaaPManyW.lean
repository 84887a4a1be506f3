/- carlinglaw12.PlaceMany: the walk. -/
import Derived.Test.YtlkkdpmloeipjaaF4
import Derived.Test.YtlkkdpmloeipjaaH1
import Derived.Test.YtlkkdpmloeipjaaI1
import Derived.Test.YtlkkdpmloeipjaaJ2
namespace Go.Proofs.Ytlkkdpmloeipjaa
open Go.RowKit Go.Proofs.YtlkkdpmloeipjaaW.PrintWords
set_option linter.unusedVariables false

theorem mL1_succ (i : Nat) : mL1 (i + 1) = mL1 i ++ [mK i] := by unfold mL1; rw [List.range_succ, List.map_append]; rfl
theorem mL2_succ (i : Nat) : mL2 (i + 1) = mL2 i ++ [mB i] := by unfold mL2; rw [List.range_succ, List.map_append]; rfl
theorem mLen1 (i : Nat) : (mL1 i ++ [mK i]).length = i + 1 := by unfold mL1; simp
theorem mLen2 (n i : Nat) : (mL1 n ++ mL2 i ++ [mB i]).length = n + i + 1 := by unfold mL1 mL2; simp; try omega
theorem mLn1 (i : Nat) : (mL1 i).length = i := by unfold mL1; simp
theorem mLn2 (n i : Nat) : (mL1 n ++ mL2 i).length = n + i := by unfold mL1 mL2; simp
theorem nCells {W : World} {b : Nat} {R : Int} {v : Value} (h : W.heap[b]? = some (.cells #[.string ⟨#[97, 46, 102]⟩, .slice none 0 0, .int .i64 R, .int .i64 0, v] 25 (0, 0))) :
    W.cell? ⟨b, 0, none⟩ = some (.string ⟨#[97, 46, 102]⟩) ∧ W.cell? ⟨b, 1, none⟩ = some (.slice none 0 0) ∧ W.cell? ⟨b, 2, none⟩ = some (.int .i64 R) ∧ W.cell? ⟨b, 3, none⟩ = some (.int .i64 0) ∧ W.cell? ⟨b, 4, none⟩ = some v :=
  ⟨blk_cell h 0, blk_cell h 1, blk_cell h 2, blk_cell h 3, blk_cell h 4⟩

set_option maxHeartbeats 16000000 in
set_option maxRecDepth 100000 in
theorem pmany_ok (n : Nat) (w : World) (h1 : 1 ≤ n) (h60 : n ≤ 60) :
    Calls Try.prog 10 #[.int .i64 n] w fun e w' => e = .returned (.bool true) ∧ Below w.heap.size w w' := by
  have hu2 := Try.underlying25
  have hu3 := Try.underlying33
  obtain ⟨P, s, hPE, hPl, hs5, hs0, hsn, hsz, hd⟩ := many_law h1 h60
  have HP := Aside0.mk (show ∀ (W : World) (A4 : Option Addr) (c4 : Nat), CodeAt W (cMany n) none 0 A4 c4 → Calls Try.prog 31 #[.agg #[.string ⟨#[97, 46, 102]⟩, .slice none 0 0, .int .i64 n, .int .i64 0, .slice A4 (n + n + 1) c4]] W (fun e w' => ∃ A c, e = .returned (.tuple #[.slice A n c, .int .i64 s, .int .i64 0]) ∧ Kd.C (Kd.int .i64) w' A P.length P ∧ Below W.heap.size W w') from fun W A4 c4 hat => by
    have h := places_any (cMany n) none 0 A4 c4 W (ok_many h60) hat
    rw [hPE] at h
    simp only [codeV] at h
    rw [show (cMany n).l.length = n + n + 1 from many_len n] at h
    exact h.mono (by
      rintro e w' ⟨A, c, rfl, _, hC, hB⟩
      exact ⟨A, c, by rw [hPl], hC, hB⟩))
  have HD := Aside0.mk hd
  have HPl := Aside0.mk hPl
  clear hPE hd hPl
  go_enter Try.func10, Try.ntmps10
  go_upto_region 5 with (first
    | (go_at_call 30; (with_reducible refine (awake12_any _).mono ?_); rintro e w1 ⟨rfl, hB1⟩; have HBa := Aside0.mk hB1; clear hB1))
  have HW0 := Aside0.mk (show BuW w w1 (w1.alloc (.cells #[.string ⟨#[97, 46, 102]⟩, .slice none 0 0, .int .i64 n, .int .i64 0, .slice none 0 0] 25)) w1.heap.size n (.slice none 0 0) (mL1 0) from ⟨rfl, HBa.out, below_alloc (Below.refl _ _) _, blk_new _ _, Kd.R_nil _ _ _ _ _⟩)
  go_wp2
  go_loopw [5] (fun v5 wr => ∃ i : Nat, i ≤ n ∧ v5 = .int .i64 i ∧ ∃ v, Aside0 (BuW w w1 wr w1.heap.size n v (mL1 i)) ∧ Aside0 True) (fun v5 _ => n - (intOf v5).toNat)
  case atStart => exact ⟨0, Nat.zero_le _, rfl, _, HW0, ⟨trivial⟩⟩
  case round =>
    clear HW0
    obtain ⟨i, hi, rfl, v, HW, _⟩ := hrel
    have q4 : wr.cell? ⟨w1.heap.size, 4, none⟩ = some v := blk_cell HW.out.box 4
    by_cases hlt : i < n
    · have hu : IntKind.u32.wrap (i : Int) = i := IntWalk.u32_in _ (by omega)
      go_wp2_with (at_builtin; refine ir_appq w1.heap.size rfl (.tmp 28) (.tmp 33) rfl v (mL1 i) (mK i) _ 1 rfl rfl (HW.out.alloc _).own rfl (blk_new _ _) (w0 := w1) (HW.out.alloc _).below (by have := HW.out.below.size; simp; omega) (by rw [mLn1]; omega) ?_; intro v5 w5 hR5 hb5 hg5; obtain ⟨A4, c4, e5, hc4, _⟩ := Kd.R_reads hR5; rw [mLen1] at e5; subst e5; have f5 := blk_frozen ((HW.out.alloc _).boxed hb5 hg5) 4; have q5 : w5.cell? ⟨w1.heap.size, 4, none⟩ = some v := blk_cell ((HW.out.alloc _).boxed hb5 hg5) 4; have HW5 := Aside0.mk ((HW.out.alloc _).step hR5 hb5 hg5); clear hR5 hb5 hg5 q4)
      go_roundw
      case rel => exact ⟨i + 1, by omega, by go_num, _, ⟨by rw [mL1_succ]; exact HW5.out⟩, ⟨trivial⟩⟩
      case measure => simp [intOf]; omega
    · obtain rfl : i = n := by omega
      have HW1 := Aside0.mk (show BuW w w1 wr w1.heap.size i v (mL1 i ++ mL2 0) by rw [show mL2 0 = [] from rfl, List.append_nil]; exact HW.out)
      clear HW q4
      go_wp2
      go_loopw [6] (fun v6 wr => ∃ j : Nat, j ≤ i ∧ v6 = .int .i64 j ∧ ∃ v, Aside0 (BuW w w1 wr w1.heap.size i v (mL1 i ++ mL2 j)) ∧ Aside0 True) (fun v6 _ => i - (intOf v6).toNat)
      case atStart => exact ⟨0, Nat.zero_le _, rfl, _, HW1, ⟨trivial⟩⟩
      case round =>
        clear HW1
        obtain ⟨j, hj, rfl, v, HW, _⟩ := hrel
        have q4 : wr.cell? ⟨w1.heap.size, 4, none⟩ = some v := blk_cell HW.out.box 4
        by_cases hlt : j < i
        · go_wp2_with (at_builtin; refine ir_appq w1.heap.size rfl (.tmp 42) (.tmp 45) rfl v (mL1 i ++ mL2 j) (mB j) _ 1 rfl rfl (HW.out.alloc _).own rfl (blk_new _ _) (w0 := w1) (HW.out.alloc _).below (by have := HW.out.below.size; simp; omega) (by rw [mLn2]; omega) ?_; intro v5 w5 hR5 hb5 hg5; obtain ⟨A4, c4, e5, hc4, _⟩ := Kd.R_reads hR5; rw [mLen2] at e5; subst e5; have f5 := blk_frozen ((HW.out.alloc _).boxed hb5 hg5) 4; have q5 : w5.cell? ⟨w1.heap.size, 4, none⟩ = some v := blk_cell ((HW.out.alloc _).boxed hb5 hg5) 4; have HW5 := Aside0.mk ((HW.out.alloc _).step hR5 hb5 hg5); clear hR5 hb5 hg5 q4)
          go_roundw
          case rel => exact ⟨j + 1, by omega, by go_num, _, ⟨by rw [mL2_succ, ← List.append_assoc]; exact HW5.out⟩, ⟨trivial⟩⟩
          case measure => simp [intOf]; omega
        · obtain rfl : j = i := by omega
          generalize wr = wb at *
          go_upto_region 15 with (first
            | (at_builtin; refine ir_appq w1.heap.size rfl (.tmp 49) (.tmp 51) rfl v (mL1 j ++ mL2 j) mR _ 1 rfl rfl (HW.out.alloc _).own rfl (blk_new _ _) (w0 := w1) (HW.out.alloc _).below (by have := HW.out.below.size; simp; omega) (by rw [mLn2]; omega) ?_; intro v5 w5 hR5 hb5 hg5; obtain ⟨A4, c4, e5, hc4, _⟩ := Kd.R_reads hR5; rw [many_len] at e5; subst e5; have f5 := blk_frozen ((HW.out.alloc _).boxed hb5 hg5) 4; have q5 : w5.cell? ⟨w1.heap.size, 4, none⟩ = some v := blk_cell ((HW.out.alloc _).boxed hb5 hg5) 4; have HW5 := Aside0.mk ((HW.out.alloc _).step hR5 hb5 hg5); obtain ⟨k0, k1, k2, k3, k4⟩ := nCells HW5.out.box; have HAt := Aside0.mk (show CodeAt _ (cMany j) none 0 A4 c4 from HW5.out.code (many_len j).symm); clear hR5 hb5 hg5 q4)
            | (go_at_call 31; (with_reducible refine (HP.out _ A4 c4 HAt.out).mono ?_); rintro e w7 ⟨A, k, rfl, hC, hB7⟩; have HBp := Aside0.mk hB7; have HC := Aside0.mk hC; clear hB7 hC k0 k1 k2 k3 k4 f5 q5))
          have HBt := Aside0.mk (below_step HW5.out.all HBp.out)
          have HPf := Aside0.mk (fun W (h : Below w7.heap.size w7 W) (r : Nat) (hr : r < j) => (show ∃ ad, A = some ad ∧ W.cell? (ad.add r) = some (.int .i64 (P.getD r 0)) from by
            obtain ⟨ad, x, e, hx, hc⟩ := nt_scalar HC.out h r (by rw [HPl.out]; exact hr)
            obtain rfl : P.getD r 0 = x := by rw [li_get (by rw [HPl.out]; exact hr)] at hx; exact Option.some.inj hx
            exact ⟨ad, e, hc⟩))
          have hmx : ¬ s < max ((j : Int) - 5) 0 := by omega
          by_cases h5 : (j : Int) ≤ 5
          · obtain rfl := hsz h5
            go_wp2
            go_loopw [10] (fun v10 wr => ∃ r : Nat, r ≤ j ∧ v10 = .int .i64 r ∧ Aside0 (Below w7.heap.size w7 wr)) (fun v10 _ => j - (intOf v10).toNat)
            case atStart => exact ⟨0, Nat.zero_le _, rfl, ⟨Below.refl _ _⟩⟩
            case round =>
              obtain ⟨r, hr, rfl, HB⟩ := hrel
              by_cases hlt2 : r < j
              · go_wp2
                go_loopw [11] (fun v11 wr => ∃ t : Nat, t ≤ r ∧ v11 = .int .i64 t ∧ Aside0 (Below w7.heap.size w7 wr)) (fun v11 _ => r - (intOf v11).toNat)
                case atStart => exact ⟨0, Nat.zero_le _, rfl, HB⟩
                case round =>
                  clear HB
                  obtain ⟨t, ht, rfl, HB⟩ := hrel
                  by_cases hlt3 : t < r
                  · obtain ⟨ad, rfl, c1⟩ := HPf.out wr HB.out r hlt2
                    obtain ⟨ad', e', c2⟩ := HPf.out wr HB.out t (by omega)
                    injection e' with e'
                    subst e'
                    have hne := HD.out t r hlt3 hlt2
                    have hneb : (P.getD r 0 == P.getD t 0) = false := beq_eq_false_iff_ne.2 (fun e => hne e.symm)
                    clear hne
                    generalize P.getD r 0 = x at *
                    generalize P.getD t 0 = y at *
                    have htj : t < j := by omega
                    go_wp2
                    go_region
                    go_wp2
                    go_roundw
                    case rel => exact ⟨t + 1, by omega, by go_num, ⟨below_drew1 HB.out⟩⟩
                    case measure => simp [intOf]; omega
                  · obtain rfl : t = r := by omega
                    go_wp2
                    go_roundw
                    case rel => exact ⟨t + 1, by omega, by go_num, HB⟩
                    case measure => simp [intOf]; omega
              · obtain rfl : r = j := by omega
                go_wp2
                go_ret
                exact ⟨rfl, below_step HBt.out HB.out⟩
          · go_wp2
            go_loopw [10] (fun v10 wr => ∃ r : Nat, r ≤ j ∧ v10 = .int .i64 r ∧ Aside0 (Below w7.heap.size w7 wr)) (fun v10 _ => j - (intOf v10).toNat)
            case atStart => exact ⟨0, Nat.zero_le _, rfl, ⟨Below.refl _ _⟩⟩
            case round =>
              obtain ⟨r, hr, rfl, HB⟩ := hrel
              by_cases hlt2 : r < j
              · go_wp2
                go_loopw [11] (fun v11 wr => ∃ t : Nat, t ≤ r ∧ v11 = .int .i64 t ∧ Aside0 (Below w7.heap.size w7 wr)) (fun v11 _ => r - (intOf v11).toNat)
                case atStart => exact ⟨0, Nat.zero_le _, rfl, HB⟩
                case round =>
                  clear HB
                  obtain ⟨t, ht, rfl, HB⟩ := hrel
                  by_cases hlt3 : t < r
                  · obtain ⟨ad, rfl, c1⟩ := HPf.out wr HB.out r hlt2
                    obtain ⟨ad', e', c2⟩ := HPf.out wr HB.out t (by omega)
                    injection e' with e'
                    subst e'
                    have hne := HD.out t r hlt3 hlt2
                    have hneb : (P.getD r 0 == P.getD t 0) = false := beq_eq_false_iff_ne.2 (fun e => hne e.symm)
                    clear hne
                    generalize P.getD r 0 = x at *
                    generalize P.getD t 0 = y at *
                    have htj : t < j := by omega
                    go_wp2
                    go_region
                    go_wp2
                    go_roundw
                    case rel => exact ⟨t + 1, by omega, by go_num, ⟨below_drew1 HB.out⟩⟩
                    case measure => simp [intOf]; omega
                  · obtain rfl : t = r := by omega
                    go_wp2
                    go_roundw
                    case rel => exact ⟨t + 1, by omega, by go_num, HB⟩
                    case measure => simp [intOf]; omega
              · obtain rfl : r = j := by omega
                go_wp2
                go_ret
                exact ⟨rfl, below_step HBt.out HB.out⟩

set_option maxHeartbeats 4000000 in
set_option maxRecDepth 100000 in
theorem pmany_walk (n : Int) (w : World) :
    Calls Try.prog 10 #[.int .i64 n] w fun e w' => e = .returned (.bool true) ∧ Below w.heap.size w w' := by
  by_cases h : 1 ≤ n ∧ n ≤ 60
  · obtain ⟨h1, h2⟩ := h
    have := pmany_ok n.toNat w (by omega) (by omega)
    rwa [show ((n.toNat : Nat) : Int) = n by omega] at this
  · rcases (show n < 1 ∨ (¬ n < 1 ∧ 60 < n) from by omega) with h1 | ⟨h1, h2⟩
    all_goals
      clear h
      go_enter Try.func10, Try.ntmps10
      go_wp2_with (go_at_call 30; (with_reducible refine (awake12_any _).mono ?_); rintro e w1 ⟨rfl, hB1⟩; have HBa := Aside0.mk hB1; clear hB1)
      go_ret
      exact ⟨rfl, HBa.out⟩
theorem pmany_row (n : Int) (_ : (Lit.int .i64 n).wf = true) (w : World) :
    Calls Try.prog 10 #[.int .i64 n] w fun e w' => e = .returned (.bool true) ∧ Below w.heap.size w w' :=
  pmany_walk n w
end Go.Proofs.Ytlkkdpmloeipjaa
