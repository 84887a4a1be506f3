/- carlingref06.SameInts. -/
import Derived.Test.YtlkkdpmloeipjaaA14
import Derived.RegionTactic
namespace Go.Proofs.Ytlkkdpmloeipjaa
open Go.RowKit Go.Proofs.YtlkkdpmloeipjaaW.PrintWords
set_option linter.unusedVariables false

set_option maxHeartbeats 4000000 in
theorem sameInts_any (xs ys : List Int) (A B : Option Addr) (c d : Nat) (w : World) (hx : Kd.C (Kd.int .i64) w A xs.length xs) (hy : Kd.C (Kd.int .i64) w B ys.length ys) :
    Calls Try.prog 33 #[.slice A xs.length c, .slice B ys.length d] w fun e w' => e = .returned (.bool (decide (xs = ys))) ∧ Below w.heap.size w w' := by
  have hlx := hx.2.1
  have HX := Aside0.mk hx
  have HY := Aside0.mk hy
  clear hx hy
  by_cases hn : xs.length = ys.length
  · have hnb : (xs.length != ys.length) = false := by simp [hn]
    rw [← hn] at HY ⊢
    have HN := Aside0.mk hn
    clear hn
    go_enter Try.func33, Try.ntmps33
    go_wp2
    go_loopw [5] (fun v11 wr => ∃ k : Nat, k ≤ xs.length ∧ v11 = .int .i64 k ∧ Aside0 (xs.take k = ys.take k) ∧ Aside0 (Below w.heap.size w wr)) (fun v11 _ => xs.length - (intOf v11).toNat)
    case atStart => exact ⟨0, Nat.zero_le _, rfl, ⟨rfl⟩, ⟨Below.refl _ _⟩⟩
    case round =>
      obtain ⟨k, hk, rfl, HE, HB⟩ := hrel
      by_cases hlt : k < xs.length
      · obtain ⟨ad, x, rfl, hx, h0⟩ := nt_scalar HX.out HB.out k hlt
        obtain ⟨bd, y, rfl, hy, g0⟩ := nt_scalar (HN.out ▸ HY.out) HB.out k (by rw [← HN.out]; exact hlt)
        by_cases he : x = y
        · have HT := Aside0.mk (show xs.take (k + 1) = ys.take (k + 1) by rw [take_snoc_at hx, take_snoc_at hy, HE.out, he])
          clear hx hy
          have hq : (x != y) = false := by simp [he]
          clear he
          go_wp2
          go_region
          go_wp2
          go_roundw
          case rel => exact ⟨k + 1, by omega, by go_num, HT, ⟨below_drew1 HB.out⟩⟩
          case measure => simp [intOf]; omega
        · have HF := Aside0.mk (show decide (xs = ys) = false from decide_eq_false (fun h => he (by rw [h, hy] at hx; exact (Option.some.inj hx).symm)))
          clear hx hy
          have hq : (x != y) = true := bne_iff_ne.2 he
          clear he
          go_wp2
          go_region
          go_wp2
          go_ret
          exact ⟨ret_bool HF.out.symm, below_drew1 HB.out⟩
      · obtain rfl : xs.length = k := by omega
        have HF := Aside0.mk (show decide (xs = ys) = true from decide_eq_true (by have := HE.out; rwa [List.take_length, HN.out, List.take_length] at this))
        go_wp2
        go_ret
        exact ⟨ret_bool HF.out.symm, HB.out⟩
  · have hnb : (xs.length != ys.length) = true := by simp [hn]
    have HF := Aside0.mk (show decide (xs = ys) = false from decide_eq_false (fun h => hn (by rw [h])))
    go_enter Try.func33, Try.ntmps33
    go_wp2
    go_ret
    exact ⟨ret_bool HF.out.symm, Below.refl _ _⟩
end Go.Proofs.Ytlkkdpmloeipjaa
