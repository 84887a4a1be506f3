/- strings.Cut at a dot, irun.named, carlingref07.Name. -/
import Derived.Test.YtddnbpgibfmolaaA3
import Derived.Test.YtddnbpgibfmolaaShelf
namespace Go.Proofs.Ytddnbpgibfmolaa
open Go.RowKit Go.Proofs.YtddnbpgibfmolaaW.PrintWords
set_option linter.unusedVariables false

/-- Where the first dot is: from i on. -/
def dotFrom (s : ByteArray) : Nat → Nat → Option Nat
  | 0, _ => none
  | n + 1, i => if bt s i = 46 then some i else dotFrom s n (i + 1)
def dotAt (s : ByteArray) : Option Nat := dotFrom s s.size 0
def namedB (s : ByteArray) : Bool := match dotAt s with
  | none => false
  | some i => nameB (s.extract 0 i) && nameB (s.extract (i + 1) s.size)

theorem dotFrom_ge (s : ByteArray) : ∀ n i j, dotFrom s n i = some j → i ≤ j ∧ j < i + n := by
  intro n
  induction n with
  | zero => intro i j h; simp [dotFrom] at h
  | succ n ih =>
    intro i j h
    unfold dotFrom at h
    by_cases e : bt s i = 46
    · rw [if_pos e] at h; injection h with h; omega
    · rw [if_neg e] at h; have := ih (i + 1) j h; omega
/-- What strings.Index tells: the place, or -1. -/
def dotI : Option Nat → Nat → Int
  | none, _ => -1
  | some j, i => ((j - i : Nat) : Int)
theorem indexByte_drop (s : ByteArray) (n : Nat) : ∀ i, i + n = s.size → Lib.indexByte (s.data.toList.drop i) 46 = dotI (dotFrom s n i) i := by
  induction n with
  | zero =>
    intro i h
    rw [List.drop_of_length_le (by rw [Array.length_toList]; show s.size ≤ i; omega)]
    rfl
  | succ n ih =>
    intro i h
    have hi : i < s.data.toList.length := by rw [Array.length_toList]; show i < s.size; omega
    rw [List.drop_eq_getElem_cons hi]
    have hb : bt s i = ((s.data.toList[i]).toNat : Int) := by rw [bt_nat s i (by omega)]; rfl
    unfold Lib.indexByte
    rw [ih (i + 1) (by omega)]
    by_cases e : s.data.toList[i] = 46
    · have hd : dotFrom s (n + 1) i = some i := by unfold dotFrom; rw [if_pos (by rw [hb, e]; rfl)]
      rw [if_pos (by simp [e]), hd]
      simp [dotI]
    · have hd : dotFrom s (n + 1) i = dotFrom s n (i + 1) := by
        conv => lhs; unfold dotFrom
        rw [if_neg (by rw [hb]; intro h2; apply e; apply UInt8.toNat.inj; show _ = 46; omega)]
      rw [hd, if_neg (by simpa using e)]
      cases hc : dotFrom s n (i + 1) with
      | none => simp [dotI]
      | some j =>
        have := dotFrom_ge s n (i + 1) j hc
        rw [if_neg (by simp [dotI]), show dotI (some j) (i + 1) = ((j - (i + 1) : Nat) : Int) from rfl, show dotI (some j) i = ((j - i : Nat) : Int) from rfl]
        omega
theorem index_dot (s : ByteArray) : Lib.indexByte s.data.toList 46 = dotI (dotAt s) 0 := indexByte_drop s s.size 0 (by omega)
theorem dotAt_lt {s : ByteArray} {j : Nat} (h : dotAt s = some j) : j < s.size := by have := dotFrom_ge s _ _ _ h; omega

/-- What strings.Cut at a dot hands back. -/
def cutV (s : ByteArray) : Value := match dotAt s with
  | none => .tuple #[.string s, .string ⟨#[]⟩, .bool false]
  | some j => .tuple #[.string (s.extract 0 j), .string (s.extract (j + 1) s.size), .bool true]

set_option maxHeartbeats 1000000 in
theorem cut0_any (s : ByteArray) (w : World) (hs : s.size ≤ 140737488351232) :
    Calls Try.prog 78 #[.string s, .string ⟨#[46]⟩] w fun e w' => e = .returned (cutV s) ∧ ∃ n, w' = w.drewN n := by
  cases hd : dotAt s with
  | none =>
    have HX := Aside0.mk (show Lib.indexByte s.data.toList 46 = -1 by rw [index_dot, hd]; rfl)
    have HV := Aside0.mk (show cutV s = .tuple #[.string s, .string ⟨#[]⟩, .bool false] by rw [cutV, hd])
    clear hd
    go_enter Try.func78, Try.ntmps78
    go_wp2_with (go_at_call 80; refine (Try.stringslite_Index_one s 46 w).mono ?_; rintro e w' ⟨rfl, rfl⟩; rw [HX.out])
    go_ret3
    exact ⟨congrArg Ending.returned HV.out.symm, 0, rfl⟩
  | some j =>
    have HX := Aside0.mk (show Lib.indexByte s.data.toList 46 = (j : Int) by rw [index_dot, hd]; simp [dotI])
    have HV := Aside0.mk (show cutV s = .tuple #[.string (s.extract 0 j), .string (s.extract (j + 1) s.size), .bool true] by rw [cutV, hd])
    have hj := dotAt_lt hd
    clear hd
    go_enter Try.func78, Try.ntmps78
    go_wp2_with (go_at_call 80; refine (Try.stringslite_Index_one s 46 w).mono ?_; rintro e w' ⟨rfl, rfl⟩; rw [HX.out])
    have e1 : IntKind.i64.wrap ((j : Int) + 1) = (j : Int) + 1 := IntWalk.i64_in _ (by omega)
    have e2 : ((j : Int) + 1).toNat = j + 1 := by omega
    have e3 : (0 : Int) ≤ (j : Int) + 1 := by omega
    go_quiet (fail)
    go_wp2
    go_ret3
    exact ⟨congrArg Ending.returned HV.out.symm, _, rfl⟩

theorem ext_le (s : ByteArray) (a b : Nat) (h : s.size ≤ 140737488351232) : (s.extract a b).size ≤ 140737488351232 := by
  rw [ByteArray.size_extract]; omega

set_option maxHeartbeats 1000000 in
theorem cut_any (s : ByteArray) (w : World) (hs : s.size ≤ 140737488351232) :
    Calls Try.prog 67 #[.string s, .string ⟨#[46]⟩] w fun e w' => e = .returned (cutV s) ∧ ∃ n, w' = w.drewN n := by
  cases hd : dotAt s with
  | none =>
    have HV := Aside0.mk (show cutV s = .tuple #[.string s, .string ⟨#[]⟩, .bool false] by rw [cutV, hd])
    clear hd
    go_enter Try.func67, Try.ntmps67
    go_wp2_with (go_at_call 78; refine (cut0_any s w hs).mono ?_; rintro e w' ⟨rfl, n, rfl⟩; rw [HV.out])
    go_ret3
    exact ⟨congrArg Ending.returned HV.out.symm, _, rfl⟩
  | some j =>
    have HV := Aside0.mk (show cutV s = .tuple #[.string (s.extract 0 j), .string (s.extract (j + 1) s.size), .bool true] by rw [cutV, hd])
    clear hd
    go_enter Try.func67, Try.ntmps67
    go_wp2_with (go_at_call 78; refine (cut0_any s w hs).mono ?_; rintro e w' ⟨rfl, n, rfl⟩; rw [HV.out])
    go_ret3
    exact ⟨congrArg Ending.returned HV.out.symm, _, rfl⟩

set_option maxHeartbeats 1000000 in
theorem named_any (s : ByteArray) (w : World) (hs : s.size ≤ 140737488351232) :
    Calls Try.prog 63 #[.string s] w fun e w' => e = .returned (.bool (namedB s)) ∧ ∃ n, w' = w.drewN n := by
  cases hd : dotAt s with
  | none =>
    have HV := Aside0.mk (show cutV s = .tuple #[.string s, .string ⟨#[]⟩, .bool false] by rw [cutV, hd])
    have HN := Aside0.mk (show namedB s = false by rw [namedB, hd])
    clear hd
    go_enter Try.func63, Try.ntmps63
    go_wp2_with (go_at_call 67; refine (cut_any s w hs).mono ?_; rintro e w' ⟨rfl, n, rfl⟩; rw [HV.out])
    go_ret
    exact ⟨ret_bool HN.out.symm, _, rfl⟩
  | some j =>
    have HV := Aside0.mk (show cutV s = .tuple #[.string (s.extract 0 j), .string (s.extract (j + 1) s.size), .bool true] by rw [cutV, hd])
    have HN := Aside0.mk (show namedB s = (nameB (s.extract 0 j) && nameB (s.extract (j + 1) s.size)) by rw [namedB, hd])
    have h1 := ext_le s 0 j hs
    have h2 := ext_le s (j + 1) s.size hs
    clear hd
    generalize s.extract 0 j = s1 at *
    generalize s.extract (j + 1) s.size = s2 at *
    have HC := Aside0.mk (show Calls Try.prog 67 #[.string s, .string ⟨#[46]⟩] w fun e w' => e = .returned (.tuple #[.string s1, .string s2, .bool true]) ∧ ∃ n, w' = w.drewN n from (cut_any s w hs).mono fun e w' h => ⟨by rw [h.1, HV.out], h.2⟩)
    clear HV
    cases hb : nameB s1
    all_goals
      go_enter Try.func63, Try.ntmps63
      go_wp2_with (first | (go_at_call 67; refine HC.out.mono ?_; rintro e w' ⟨rfl, n, rfl⟩) | (go_at_call 68; (with_reducible refine (tname_any s1 _ h1).mono ?_); rintro e w' ⟨rfl, rfl⟩) | (go_at_call 68; (with_reducible refine (tname_any s2 _ h2).mono ?_); rintro e w' ⟨rfl, rfl⟩))
      go_ret
      exact ⟨ret_bool (by rw [HN.out, hb]; simp), _, rfl⟩
end Go.Proofs.Ytddnbpgibfmolaa
