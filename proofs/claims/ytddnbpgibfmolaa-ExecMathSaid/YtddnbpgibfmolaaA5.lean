/- carlingref07.Name. -/
import Derived.Test.YtddnbpgibfmolaaA4
namespace Go.Proofs.Ytddnbpgibfmolaa
open Go.RowKit Go.Proofs.YtddnbpgibfmolaaW.PrintWords
set_option linter.unusedVariables false

theorem dot_step {s : ByteArray} {k : Nat} (hk : k < s.size) (h : dotAt s = dotFrom s (s.size - k) k) (hb : ¬ bt s k = 46) : dotAt s = dotFrom s (s.size - (k + 1)) (k + 1) := by
  rw [h]
  obtain ⟨n, hn⟩ : ∃ n, s.size - k = n + 1 := ⟨s.size - k - 1, by omega⟩
  rw [hn, show s.size - (k + 1) = n by omega]
  conv => lhs; unfold dotFrom
  rw [if_neg hb]
theorem dot_hit {s : ByteArray} {k : Nat} (hk : k < s.size) (h : dotAt s = dotFrom s (s.size - k) k) (hb : bt s k = 46) : dotAt s = some k := by
  rw [h]
  obtain ⟨n, hn⟩ : ∃ n, s.size - k = n + 1 := ⟨s.size - k - 1, by omega⟩
  rw [hn]
  unfold dotFrom
  rw [if_pos hb]

set_option maxHeartbeats 1000000 in
theorem rnamed_any (s : ByteArray) (w : World) (hs : s.size ≤ 140737488351232) :
    Calls Try.prog 42 #[.string s] w fun e w' => e = .returned (.bool (namedB s)) ∧ ∃ n, w' = w.drewN n := by
  go_enter Try.func42, Try.ntmps42
  go_wp2
  go_loop [3] (fun i => ∃ k : Nat, k ≤ s.size ∧ i = .int .i64 k ∧ Aside0 (dotAt s = dotFrom s (s.size - k) k)) (fun i => s.size - (intOf i).toNat)
  case atStart => exact ⟨0, Nat.zero_le _, rfl, ⟨rfl⟩⟩
  case round =>
    obtain ⟨k, hk, rfl, HA⟩ := hrel
    by_cases hlt : k < s.size
    · have HE := Aside0.mk (bt_nat s k hlt)
      have HB := bt_range s k
      rw [HE.out] at HB
      by_cases hc : bt s k = 46
      · have HD := Aside0.mk (dot_hit hlt HA.out hc)
        have hcb : ((s[k].toNat : Int) == 46) = true := by rw [HE.out] at hc; exact beq_iff_eq.2 hc
        have HN := Aside0.mk (show namedB s = (nameB (s.extract 0 k) && nameB (s.extract (k + 1) s.size)) by rw [namedB, HD.out])
        have h1 := ext_le s 0 k hs
        have h2 := ext_le s (k + 1) s.size hs
        clear hc
        cases hb : nameB (s.extract 0 k)
        all_goals
          go_wp2_with (first | (go_at_call 70; (with_reducible refine (rname_any (s.extract 0 k) _ h1).mono ?_); rintro e w' ⟨rfl, rfl⟩) | (go_at_call 70; (with_reducible refine (rname_any (s.extract (k + 1) s.size) _ h2).mono ?_); rintro e w' ⟨rfl, rfl⟩))
          go_ret
          exact ⟨ret_bool (by rw [HN.out, hb]; simp), 0, rfl⟩
      · have HD := Aside0.mk (dot_step hlt HA.out hc)
        have hcb : ((s[k].toNat : Int) == 46) = false := by rw [HE.out] at hc; exact beq_eq_false_iff_ne.2 hc
        clear hc
        go_wp2
        go_round
        case rel => exact ⟨k + 1, by omega, by go_num, HD⟩
        case measure => simp [intOf]; omega
    · obtain rfl : k = s.size := by omega
      have HN := Aside0.mk (show namedB s = false by rw [namedB, HA.out, Nat.sub_self]; rfl)
      go_wp2
      go_ret
      exact ⟨ret_bool HN.out.symm, 0, rfl⟩
end Go.Proofs.Ytddnbpgibfmolaa
