/- The functions of PlaceMany: what comes of them. No program in sight. -/
import Derived.Test.YtlkkdpmloeipjaaJ1
namespace Go.Proofs.Ytlkkdpmloeipjaa
open Go.RowKit Go.Proofs.YtlkkdpmloeipjaaW.PrintWords
set_option linter.unusedVariables false

theorem mem_many {n : Nat} {x : Ir} (hx : x ∈ (cMany n).l) : (∃ i, i < n ∧ x = mK i) ∨ (∃ i, i < n ∧ x = mB i) ∨ x = mR := by
  simp only [cMany, mL1, mL2, List.mem_append, List.mem_map, List.mem_range, List.mem_singleton] at hx
  rcases hx with (⟨i, hi, rfl⟩ | ⟨i, hi, rfl⟩) | rfl
  · exact .inl ⟨i, hi, rfl⟩
  · exact .inr (.inl ⟨i, hi, rfl⟩)
  · exact .inr (.inr rfl)
theorem many_len (n : Nat) : (mL1 n ++ mL2 n ++ [mR]).length = n + n + 1 := by
  rw [List.length_append, List.length_append, List.length_singleton]
  unfold mL1 mL2
  rw [List.length_map, List.length_map, List.length_range]
theorem ok_many {n : Nat} (h60 : n ≤ 60) : CodeOk (cMany n) := by
  refine ⟨by show (⟨#[97, 46, 102]⟩ : ByteArray).size ≤ 100; decide, Nat.zero_le _, ?_, by show (n : Int) ≤ 20000; omega, by show (0 : Int) ≤ 20000; decide, fun x hx => ?_, fun x hx => ?_, fun x hx => ?_⟩
  · show (mL1 n ++ mL2 n ++ [mR]).length ≤ 3000
    rw [many_len]
    omega
  · rcases mem_many hx with ⟨i, hi, rfl⟩ | ⟨i, hi, rfl⟩ | rfl <;> exact Nat.zero_le _
  · rcases mem_many hx with ⟨i, hi, rfl⟩ | ⟨i, hi, rfl⟩ | rfl <;> exact Nat.zero_le _
  · rcases mem_many hx with ⟨i, hi, rfl⟩ | ⟨i, hi, rfl⟩ | rfl
    · show (0 : Int) ≤ (i : Int) ∧ (i : Int) < 4294967296
      omega
    · exact ⟨Int.le_refl _, by show (0 : Int) < 4294967296; decide⟩
    · exact ⟨Int.le_refl _, by show (0 : Int) < 4294967296; decide⟩
theorem calls_many (n : Nat) (s : Sp) : callsB (cMany n) s = false := by
  cases hc : callsB (cMany n) s
  · rfl
  · simp only [callsB, callsTo, List.any_eq_true, List.mem_range] at hc
    obtain ⟨i, hi, hx⟩ := hc
    rw [List.getElem?_eq_getElem hi] at hx
    simp only [callAt, decide_eq_true_eq] at hx
    rcases mem_many (List.getElem_mem hi) with ⟨j, hj, e⟩ | ⟨j, hj, e⟩ | e
    · rw [e] at hx; exact absurd hx.1 (by show ¬ (1 : Int) = 7; decide)
    · rw [e] at hx; exact absurd hx.1 (by show ¬ (3 : Int) = 7; decide)
    · rw [e] at hx; exact absurd hx.1 (by show ¬ (10 : Int) = 7; decide)
/-- What PlaceMany asks. -/
theorem many_law {n : Nat} (h1 : 1 ≤ n) (h60 : n ≤ 60) : ∃ (P : List Int) (s : Int), placesE (cMany n) = (P, s, 0) ∧ P.length = n ∧ (n : Int) - 5 ≤ s ∧ 0 ≤ s ∧ s ≤ n ∧ ((n : Int) ≤ 5 → s = 0) ∧ ∀ k r, k < r → r < n → P.getD k 0 ≠ P.getD r 0 := by
  obtain ⟨h0, hS⟩ := many_facts h1 h60
  have hok := placesE_ok h0
  have hsl := slots_le h0
  have hez := easy_slots h0
  have hen : (placesE (cMany n)).2.2 = 0 := by unfold placesE; rw [if_pos h0]
  obtain ⟨P, s, e, hP⟩ : ∃ P s e, placesE (cMany n) = (P, s, e) := ⟨_, _, _, rfl⟩
  have hr2 : (cMany n).regs.toNat = n := Int.toNat_natCast n
  have hr3 : (cMany n).regs = n := rfl
  rw [hP] at hok hsl hez hen
  rw [hr2] at hok hez
  rw [hr3] at hsl
  simp only at hsl hez hen
  subst hen
  have hok : PlaceOk (cMany n) n P s := hok
  have hs0 : 0 ≤ s := hok.slots0
  have hsp : ∀ r, r < n → sp (spansE (cMany n)) r = mSp n r := by
    intro r hr
    show (spansE (cMany n)).getD r zSp = _
    rw [hS, List.getD_eq_getElem?_getD, List.getElem?_map, List.getElem?_range hr]
    rfl
  have hmeet : ∀ k r, k < r → r < n → meetB (mSp n k) (mSp n r) = true := by
    intro k r hk hr
    unfold meetB mSp
    simp only [Bool.and_eq_true, decide_eq_true_eq]
    refine ⟨⟨⟨?_, ?_⟩, ?_⟩, ?_⟩
    · split <;> omega
    · rw [if_neg (by omega)]; omega
    · rw [if_neg (by omega)]; omega
    · split <;> omega
  have hd : ∀ k r, k < r → r < n → P.getD k 0 ≠ P.getD r 0 := by
    intro k r hk hr he
    have := hok.apart r k hk hr he
    rw [hsp k (by omega), hsp r hr, hmeet k r hk hr] at this
    cases this
  refine ⟨P, s, hP, hok.len, ?_, hs0, hsl, fun h5 => hez ⟨fun r hr => calls_many n _, fun i hi => Nat.le_trans (covTo_le _ _ _) (by omega)⟩, hd⟩
  have hin : ∀ r, r < n → 3 ≤ P.getD r 0 ∧ P.getD r 0 < 8 + s := fun r hr => by
    have := hok.at_ r hr
    exact ⟨this.1, by omega⟩
  have hlen := sub_len ((List.range n).map (fun r => (P.getD r 0 - 3).toNat)) (List.range (5 + s.toNat)) (by
    rw [List.pairwise_map]
    refine List.Pairwise.imp_of_mem ?_ List.pairwise_lt_range
    intro a b ha hb hab
    have hb' := List.mem_range.1 hb
    have h1 := hin a (by omega)
    have h2 := hin b hb'
    have h3 := hd a b hab hb'
    omega) (by
    intro x hx
    obtain ⟨r, hr, rfl⟩ := List.mem_map.1 hx
    have := hin r (List.mem_range.1 hr)
    exact List.mem_range.2 (by omega))
  rw [List.length_map, List.length_range, List.length_range] at hlen
  omega
end Go.Proofs.Ytlkkdpmloeipjaa
