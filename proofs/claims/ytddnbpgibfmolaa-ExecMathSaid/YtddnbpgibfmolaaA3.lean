/- carlingref03.Name. -/
import Derived.Test.YtddnbpgibfmolaaA2
namespace Go.Proofs.Ytddnbpgibfmolaa
open Go.RowKit Go.Proofs.YtddnbpgibfmolaaW.PrintWords
set_option linter.unusedVariables false

/-- carlingref03.Name's own test of a byte. -/
def nrOk (c : Int) : Bool := decide (97 ≤ c ∧ c ≤ 122) || decide (48 ≤ c ∧ c ≤ 57) || decide (c = 95)
def nrAll (s : ByteArray) (k : Nat) : Bool := (List.range k).all (fun i => nrOk (bt s i))
theorem nrAll_succ (s : ByteArray) (k : Nat) : nrAll s (k + 1) = (nrAll s k && nrOk (bt s k)) := by
  simp [nrAll, List.range_succ]
theorem nrAll_mono {s : ByteArray} {k n : Nat} (h : k ≤ n) (hf : nrAll s k = false) : nrAll s n = false := by
  induction n with
  | zero => obtain rfl : k = 0 := by omega
            exact hf
  | succ n ih =>
    by_cases e : k = n + 1
    · rw [← e]; exact hf
    · rw [nrAll_succ, ih (by omega)]; rfl
/-- The two forms of a name are one. -/
theorem nr_nm (s : ByteArray) (h0 : 97 ≤ bt s 0) (h1 : bt s 0 ≤ 122) (k : Nat) : nmAll s k = nrAll s k := by
  induction k with
  | zero => rfl
  | succ k ih =>
    rw [nmAll_succ, nrAll_succ, ih]
    congr 1
    cases k with
    | zero => simp [nmOk, nrOk, h0, h1]
    | succ k => simp [nmOk, nrOk, Bool.or_assoc]
theorem nameB_first {s : ByteArray} (h : bt s 0 < 97 ∨ 122 < bt s 0) : nameB s = false := by
  by_cases hz : 0 < s.size
  · refine name_false (k := 0) hz ?_
    simp [nmOk]; omega
  · simp [nameB, hz]
theorem nameB_nr {s : ByteArray} (h0 : 97 ≤ bt s 0) (h1 : bt s 0 ≤ 122) (hz : 0 < s.size) (hz2 : s.size ≤ 12) : nameB s = nrAll s s.size := by
  rw [nameB, nr_nm s h0 h1]; simp [hz, hz2]
theorem nrname_false {s : ByteArray} {k : Nat} (hk : k < s.size) (h : nrOk (bt s k) = false) : nrAll s s.size = false :=
  nrAll_mono (k := k + 1) (by omega) (by rw [nrAll_succ, h, Bool.and_false])

set_option maxHeartbeats 1000000 in
theorem rname_any (s : ByteArray) (w : World) (hs : s.size ≤ 140737488351232) :
    Calls Try.prog 70 #[.string s] w fun e w' => e = .returned (.bool (nameB s)) ∧ w = w' := by
  by_cases hz : s.size = 0
  · have HF := Aside0.mk (show nameB s = false by simp [nameB, hz])
    go_enter Try.func70, Try.ntmps70
    go_wp2
    go_ret
    exact ⟨ret_bool HF.out.symm, rfl⟩
  have hzb : ((s.size : Int) == 0) = false := beq_eq_false_iff_ne.2 (by omega)
  by_cases h12 : 12 < s.size
  · have HF := Aside0.mk (show nameB s = false by simp [nameB]; omega)
    go_enter Try.func70, Try.ntmps70
    go_wp2
    all_goals (go_ret; exact ⟨ret_bool HF.out.symm, rfl⟩)
  have hpos : 0 < s.size := by omega
  have HE := Aside0.mk (bt_nat s 0 hpos)
  by_cases ha : (s[0].toNat : Int) < 97
  · have HF := Aside0.mk (nameB_first (s := s) (.inl (by rw [show (0 : Int) = ((0 : Nat) : Int) from rfl, HE.out]; exact ha)))
    go_enter Try.func70, Try.ntmps70
    go_wp2
    all_goals (go_ret; exact ⟨ret_bool HF.out.symm, rfl⟩)
  by_cases hb : 122 < (s[0].toNat : Int)
  · have HF := Aside0.mk (nameB_first (s := s) (.inr (by rw [show (0 : Int) = ((0 : Nat) : Int) from rfl, HE.out]; exact hb)))
    go_enter Try.func70, Try.ntmps70
    go_wp2
    all_goals (go_ret; exact ⟨ret_bool HF.out.symm, rfl⟩)
  have HS := Aside0.mk (nameB_nr (s := s) (by rw [show (0 : Int) = ((0 : Nat) : Int) from rfl, HE.out]; omega) (by rw [show (0 : Int) = ((0 : Nat) : Int) from rfl, HE.out]; omega) hpos (by omega))
  clear HE
  go_enter Try.func70, Try.ntmps70
  go_wp2
  go_loop [3] (fun i => ∃ k : Nat, k ≤ s.size ∧ i = .int .i64 k ∧ Aside0 (nrAll s k = true)) (fun i => s.size - (intOf i).toNat)
  case atStart => exact ⟨0, Nat.zero_le _, rfl, ⟨rfl⟩⟩
  case round =>
    obtain ⟨k, hk, rfl, HA⟩ := hrel
    clear ha hb
    by_cases hlt : k < s.size
    · have HE := Aside0.mk (bt_nat s k hlt)
      have HB := bt_range s k
      rw [HE.out] at HB
      by_cases ho : nrOk (bt s k) = true
      · have HN := Aside0.mk (show nrAll s (k + 1) = true by rw [nrAll_succ, HA.out, ho]; rfl)
        rw [HE.out] at ho
        simp only [nrOk, Bool.or_eq_true, Bool.and_eq_true, decide_eq_true_eq] at ho
        by_cases h95 : (s[k].toNat : Int) = 95
        · have h95b : ((s[k].toNat : Int) == 95) = true := beq_iff_eq.2 h95
          go_wp2
          all_goals first | (go_round; (case rel => exact ⟨k + 1, by omega, by go_num, HN⟩); (case measure => simp [intOf]; omega)) | (exfalso; omega)
        · have h95b : ((s[k].toNat : Int) == 95) = false := beq_eq_false_iff_ne.2 h95
          have ho' : (97 ≤ ((s[k].toNat) : Int) ∧ ((s[k].toNat) : Int) ≤ 122) ∨ (48 ≤ ((s[k].toNat) : Int) ∧ ((s[k].toNat) : Int) ≤ 57) := by
            rcases ho with (h | h) | h
            · exact .inl h
            · exact .inr h
            · exact absurd h h95
          clear ho h95
          rcases ho' with ⟨h1, h2⟩ | ⟨h1, h2⟩
          · go_wp2
            all_goals (go_round; (case rel => exact ⟨k + 1, by omega, by go_num, HN⟩); (case measure => simp [intOf]; omega))
          · have h3 : ¬ (97 ≤ ((s[k].toNat) : Int)) := by omega
            go_wp2
            all_goals (go_round; (case rel => exact ⟨k + 1, by omega, by go_num, HN⟩); (case measure => simp [intOf]; omega))
      · have HF := Aside0.mk (nrname_false hlt (by simpa using ho))
        have ho' : ¬ ((97 ≤ ((s[k].toNat) : Int) ∧ ((s[k].toNat) : Int) ≤ 122) ∨ ((48 ≤ ((s[k].toNat) : Int) ∧ ((s[k].toNat) : Int) ≤ 57) ∨ ((s[k].toNat) : Int) = 95)) := by
          rw [HE.out] at ho
          simpa only [nrOk, Bool.or_eq_true, Bool.and_eq_true, decide_eq_true_eq, or_assoc] using ho
        clear ho
        have h95b : ((s[k].toNat : Int) == 95) = false := beq_eq_false_iff_ne.2 (by omega)
        go_wp2
        all_goals first | (go_ret; exact ⟨ret_bool (by rw [HS.out, HF.out]), rfl⟩) | (exfalso; simp only [Bool.not_eq_eq_eq_not, Bool.not_false, Bool.not_true, decide_eq_true_eq, decide_eq_false_iff_not, beq_iff_eq, beq_eq_false_iff_ne] at *; omega)
    · obtain rfl : k = s.size := by omega
      go_wp2
      go_ret
      exact ⟨ret_bool (by rw [HS.out, HA.out]), rfl⟩
end Go.Proofs.Ytddnbpgibfmolaa
