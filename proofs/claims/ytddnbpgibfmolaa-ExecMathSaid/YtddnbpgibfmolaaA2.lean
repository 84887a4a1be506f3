/- tree.Name, carlingref03.Name, strings.Cut at a dot, irun.named, carlingref07.Name. -/
import Derived.Test.YtddnbpgibfmolaaA1
import Derived.Shelf.Strings.Search1
namespace Go.Proofs.Ytddnbpgibfmolaa
open Go.RowKit Go.Proofs.YtddnbpgibfmolaaW.PrintWords
set_option linter.unusedVariables false

/-- May the i-th byte of a name be this? -/
def nmOk (i : Nat) (c : Int) : Bool := decide (97 ≤ c ∧ c ≤ 122) || (decide (0 < i) && (decide (48 ≤ c ∧ c ≤ 57) || decide (c = 95)))
def nmAll (s : ByteArray) (k : Nat) : Bool := (List.range k).all (fun i => nmOk i (bt s i))
def nameB (s : ByteArray) : Bool := decide (0 < s.size ∧ s.size ≤ 12) && nmAll s s.size

theorem nmAll_succ (s : ByteArray) (k : Nat) : nmAll s (k + 1) = (nmAll s k && nmOk k (bt s k)) := by
  simp [nmAll, List.range_succ]
theorem nmAll_mono {s : ByteArray} {k n : Nat} (h : k ≤ n) (hf : nmAll s k = false) : nmAll s n = false := by
  induction n with
  | zero => obtain rfl : k = 0 := by omega
            exact hf
  | succ n ih =>
    by_cases e : k = n + 1
    · rw [← e]; exact hf
    · rw [nmAll_succ, ih (by omega)]; rfl
theorem name_false {s : ByteArray} {k : Nat} (hk : k < s.size) (h : nmOk k (bt s k) = false) : nameB s = false := by
  have : nmAll s s.size = false := nmAll_mono (k := k + 1) (by omega) (by rw [nmAll_succ, h, Bool.and_false])
  simp [nameB, this]
theorem ret_bool {a b : Bool} (h : a = b) : Ending.returned (.bool a) = .returned (.bool b) := by rw [h]

theorem bt_nat (s : ByteArray) (k : Nat) (h : k < s.size) : bt s k = ((s[k]'h).toNat : Int) := by simp [bt, h]

theorem size_nil {s : ByteArray} (h : s.size = 0) : s.toList = [] := by
  rw [ByteArray.toList_eq]
  exact List.eq_nil_of_length_eq_zero (by rw [Array.length_toList]; exact h)
theorem size_pos {s : ByteArray} (h : 0 < s.size) : s.toList.isEmpty = false := by
  rw [ByteArray.toList_eq]
  cases e : s.data.toList with
  | nil => have : s.data.toList.length = s.size := by rw [Array.length_toList]; rfl
           rw [e] at this; simp at this; omega
  | cons a l => rfl

set_option maxHeartbeats 1000000 in
theorem tname_any (s : ByteArray) (w : World) (hs : s.size ≤ 140737488351232) :
    Calls Try.prog 68 #[.string s] w fun e w' => e = .returned (.bool (nameB s)) ∧ w = w' := by
  go_enter Try.func68, Try.ntmps68
  go_wp2
  go_loop [7] (fun i => ∃ k : Nat, k ≤ s.size ∧ i = .int .i64 k ∧ Aside0 (nmAll s k = true)) (fun i => s.size - (intOf i).toNat)
  case atStart => exact ⟨0, Nat.zero_le _, rfl, ⟨rfl⟩⟩
  case round =>
    obtain ⟨k, hk, rfl, HA⟩ := hrel
    by_cases hlt : k < s.size
    · have HE := Aside0.mk (bt_nat s k hlt)
      have HB := bt_range s k
      rw [HE.out] at HB
      by_cases ho : nmOk k (bt s k) = true
      · have HN := Aside0.mk (show nmAll s (k + 1) = true by rw [nmAll_succ, HA.out, ho]; rfl)
        rw [HE.out] at ho
        simp only [nmOk, Bool.or_eq_true, Bool.and_eq_true, decide_eq_true_eq] at ho
        rcases ho with ho | ⟨h0, ho | ho⟩
        · go_wp2
          go_round
          case rel => exact ⟨k + 1, by omega, by go_num, HN⟩
          case measure => simp [intOf]; omega
        · have hx : ¬ (97 ≤ ((s[k].toNat) : Int)) := by omega
          go_wp2
          go_round
          case rel => exact ⟨k + 1, by omega, by go_num, HN⟩
          case measure => simp [intOf]; omega
        · have hx : (97 ≤ ((s[k].toNat) : Int)) = False := by simp; omega
          have hx2 : ¬ (((s[k].toNat) : Int) ≤ 57) := by omega
          go_wp2
          go_round
          case rel => exact ⟨k + 1, by omega, by go_num, HN⟩
          case measure => simp [intOf]; omega
      · have HF := Aside0.mk (name_false hlt (by simpa using ho))
        have ho' : ¬ ((97 ≤ ((s[k].toNat) : Int) ∧ ((s[k].toNat) : Int) ≤ 122) ∨ (0 < k ∧ ((48 ≤ ((s[k].toNat) : Int) ∧ ((s[k].toNat) : Int) ≤ 57) ∨ ((s[k].toNat) : Int) = 95))) := by
          rw [HE.out] at ho
          simpa only [nmOk, Bool.or_eq_true, Bool.and_eq_true, decide_eq_true_eq] using ho
        clear ho
        go_wp2
        all_goals first | (go_ret; exact ⟨ret_bool HF.out.symm, rfl⟩) | (exfalso; simp only [beq_iff_eq] at *; omega)
    · obtain rfl : k = s.size := by omega
      have HS := Aside0.mk (show nameB s = (decide (0 < s.size ∧ s.size ≤ 12)) by rw [nameB, HA.out, Bool.and_true])
      by_cases hz : s.size = 0
      · have hz1 : s.toList = [] := size_nil hz
        have HZ := Aside0.mk hz
        clear hz hlt hk
        go_wp2
        go_ret
        exact ⟨ret_bool (by rw [HS.out, HZ.out]; rfl), rfl⟩
      · have hz1 : s.toList.isEmpty = false := size_pos (by omega)
        by_cases h12 : s.size ≤ 12
        · have hd := Aside0.mk (show decide (0 < s.size ∧ s.size ≤ 12) = true by simp; omega)
          have h12b : ¬ (12 < s.size) := by omega
          go_wp2
          all_goals (go_ret; exact ⟨ret_bool (by rw [HS.out, hd.out]; simp; try omega), rfl⟩)
        · have hd := Aside0.mk (show decide (0 < s.size ∧ s.size ≤ 12) = false by simp; omega)
          go_wp2
          all_goals (go_ret; exact ⟨ret_bool (by rw [HS.out, hd.out]; simp; try omega), rfl⟩)
end Go.Proofs.Ytddnbpgibfmolaa
