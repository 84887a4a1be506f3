/- place.Places and place.Check, whatever the code; carlinglaw12.awake. -/
import Derived.Test.YtlkkdpmloeipjaaE3
import Derived.Test.YtlkkdpmloeipjaaF3
import Derived.Test.YtlkkdpmloeipjaaA15
namespace Go.Proofs.Ytlkkdpmloeipjaa
open Go.RowKit Go.Proofs.YtlkkdpmloeipjaaW.PrintWords
set_option linter.unusedVariables false

theorem places_any (c : Code) (A1 : Option Addr) (c1 : Nat) (A4 : Option Addr) (c4 : Nat) (w : World) (hok : CodeOk c) (hat : CodeAt w c A1 c1 A4 c4) :
    Calls Try.prog 31 #[codeV c A1 c1 A4 c4] w (RetPl w (placesE c).1 (placesE c).2.1 (placesE c).2.2) := by
  by_cases hb : (rightE c).1 = 0
  · exact places_ok c A1 c1 A4 c4 w hok hat hb
  · have := places_bad c A1 c1 A4 c4 w hok hat hb
    unfold placesE
    rw [if_neg hb]
    exact this
theorem check_any (c : Code) (l : List Int) (slots : Int) (A1 : Option Addr) (c1 : Nat) (A4 : Option Addr) (c4 : Nat) (A : Option Addr) (cA : Nat) (w : World) (hok : CodeOk c) (hat : CodeAt w c A1 c1 A4 c4) (hl : Kd.C (Kd.int .i64) w A l.length l) (hp : ∀ p ∈ l, 0 ≤ p ∧ p ≤ 1000000) :
    Calls Try.prog 32 #[codeV c A1 c1 A4 c4, .slice A l.length cA, .int .i64 slots] w fun e w' => e = .returned (.bool (checkE c l slots)) ∧ Below w.heap.size w w' := by
  by_cases h : (rightE c).1 = 0 ∧ (l.length : Int) = c.regs ∧ 0 ≤ slots
  · unfold checkE
    rw [if_pos h]
    exact check_ok c l slots A1 c1 A4 c4 A cA w hok hat hl hp h.1 h.2.1 h.2.2
  · unfold checkE
    rw [if_neg h]
    exact check_bad c l slots A1 c1 A4 c4 A cA w hok hat h

theorem places_awake : placesE cAwake = ([3, 3], 0, 0) := by kernel_rfl
theorem check_awake1 : checkE cAwake [3, 3] 0 = true := by kernel_rfl
theorem check_awake2 : checkE cAwake [3, 8] 0 = false := by kernel_rfl
theorem C_ints2 {w : World} {g : Nat} {a b : Int} (hb : w.heap[g]? = some (.cells #[.int .i64 a, .int .i64 b] 3 (0, 0))) : Kd.C (Kd.int .i64) w (some ⟨g, 0, none⟩) [a, b].length [a, b] := by
  refine C_blk hb ⟨rfl, fun j p hj => ?_⟩ (by simp)
  match j, hj with
  | 0, hj =>
    obtain rfl : a = p := Option.some.inj hj
    rfl
  | 1, hj =>
    obtain rfl : b = p := Option.some.inj hj
    rfl
  | j + 2, hj => simp at hj

set_option maxHeartbeats 4000000 in
set_option maxRecDepth 100000 in
theorem awake12_any (w : World) : Calls Try.prog 30 #[] w fun e w' => e = .returned (.bool true) ∧ Below w.heap.size w w' := by
  have hu2 := Try.underlying25
  have hu3 := Try.underlying33
  have HC := Aside0.mk (fun (W : World) (g : Nat) (hb : W.heap[g]? = some (.cells #[.int .i64 1, .int .i64 0, .int .i64 0, .int .i64 0, .int .i64 0, .int .i64 0, .int .u32 5, .string ⟨#[]⟩, .slice none 0 0, .int .i64 3, .int .i64 1, .int .i64 1, .int .i64 0, .int .i64 0, .int .i64 0, .int .u32 0, .string ⟨#[]⟩, .slice none 0 0, .int .i64 10, .int .i64 0, .int .i64 0, .int .i64 1, .int .i64 0, .int .i64 0, .int .u32 0, .string ⟨#[]⟩, .slice none 0 0] 33 (0, 0))) => places_any cAwake none 0 (some ⟨g, 0, none⟩) 3 W ok_awake ⟨Kd.C_nil _ _, Nat.le_refl _, C_awake hb, Nat.le_refl _⟩)
  have HK := Aside0.mk (fun (W : World) (g : Nat) (a b : Int) (A : Option Addr) (k : Nat) (ha : 0 ≤ a ∧ a ≤ 1000000) (hb' : 0 ≤ b ∧ b ≤ 1000000) (hl : Kd.C (Kd.int .i64) W A [a, b].length [a, b]) (hb : W.heap[g]? = some (.cells #[.int .i64 1, .int .i64 0, .int .i64 0, .int .i64 0, .int .i64 0, .int .i64 0, .int .u32 5, .string ⟨#[]⟩, .slice none 0 0, .int .i64 3, .int .i64 1, .int .i64 1, .int .i64 0, .int .i64 0, .int .i64 0, .int .u32 0, .string ⟨#[]⟩, .slice none 0 0, .int .i64 10, .int .i64 0, .int .i64 0, .int .i64 1, .int .i64 0, .int .i64 0, .int .u32 0, .string ⟨#[]⟩, .slice none 0 0] 33 (0, 0))) => check_any cAwake [a, b] 0 none 0 (some ⟨g, 0, none⟩) 3 A k W ok_awake ⟨Kd.C_nil _ _, Nat.le_refl _, C_awake hb, Nat.le_refl _⟩ hl (by intro p hp; simp at hp; rcases hp with rfl | rfl <;> assumption))
  have hk1 := check_awake1
  have hk2 := check_awake2
  rw [places_awake] at HC
  simp only [codeV, cAwake, List.length_nil, List.length_cons, Nat.zero_add, Nat.reduceAdd] at HC HK hk1 hk2
  have HX := Aside0.mk (fun (W : World) (g : Nat) (h1 : W.heap[g]? = some (.cells #[.string ⟨#[97, 46, 102]⟩, .slice none 0 0, .int .i64 2, .int .i64 0, .slice (some ⟨w.heap.size, 0, none⟩) 3 3] 25 (0, 0))) => (show W.cell? ⟨g, 0, none⟩ = some (.string ⟨#[97, 46, 102]⟩) ∧ W.cell? ⟨g, 1, none⟩ = some (.slice none 0 0) ∧ W.cell? ⟨g, 2, none⟩ = some (.int .i64 2) ∧ W.cell? ⟨g, 3, none⟩ = some (.int .i64 0) ∧ W.cell? ⟨g, 4, none⟩ = some (.slice (some ⟨w.heap.size, 0, none⟩) 3 3) from ⟨blk_cell h1 0, blk_cell h1 1, blk_cell h1 2, blk_cell h1 3, blk_cell h1 4⟩))
  go_enter Try.func30, Try.ntmps30
  go_wp2_with (first
    | (go_at_call 31; (with_reducible refine (HC.out _ w.heap.size (blk_alloc (blk_new _ _) _)).mono ?_); rintro e w1 ⟨A, c, rfl, hcap, hCs, hB1⟩; have HB1 := Aside0.mk hB1; have HI1 := Aside0.mk (blk_below (blk_alloc (blk_new w (.cells #[.int .i64 1, .int .i64 0, .int .i64 0, .int .i64 0, .int .i64 0, .int .i64 0, .int .u32 5, .string ⟨#[]⟩, .slice none 0 0, .int .i64 3, .int .i64 1, .int .i64 1, .int .i64 0, .int .i64 0, .int .i64 0, .int .u32 0, .string ⟨#[]⟩, .slice none 0 0, .int .i64 10, .int .i64 0, .int .i64 0, .int .i64 1, .int .i64 0, .int .i64 0, .int .u32 0, .string ⟨#[]⟩, .slice none 0 0] 33 (0, 0))) (.cells #[.string ⟨#[97, 46, 102]⟩, .slice none 0 0, .int .i64 2, .int .i64 0, .slice (some ⟨w.heap.size, 0, none⟩) 3 3] 25 (0, 0))) hB1); have HC1 := Aside0.mk (blk_below (blk_new1 w (.cells #[.int .i64 1, .int .i64 0, .int .i64 0, .int .i64 0, .int .i64 0, .int .i64 0, .int .u32 5, .string ⟨#[]⟩, .slice none 0 0, .int .i64 3, .int .i64 1, .int .i64 1, .int .i64 0, .int .i64 0, .int .i64 0, .int .u32 0, .string ⟨#[]⟩, .slice none 0 0, .int .i64 10, .int .i64 0, .int .i64 0, .int .i64 1, .int .i64 0, .int .i64 0, .int .u32 0, .string ⟨#[]⟩, .slice none 0 0] 33 (0, 0)) (.cells #[.string ⟨#[97, 46, 102]⟩, .slice none 0 0, .int .i64 2, .int .i64 0, .slice (some ⟨w.heap.size, 0, none⟩) 3 3] 25 (0, 0))) hB1); clear hB1 hCs; obtain ⟨g0, g1, g2, g3, g4⟩ := HX.out _ _ HC1.out)
    | (go_at_call 32; (with_reducible refine (HK.out _ w.heap.size 3 3 _ _ (by decide) (by decide) (C_ints2 (blk_new _ _)) (blk_alloc HI1.out _)).mono ?_); rintro e w2 ⟨rfl, hB2⟩; rw [hk1]; have HB2 := Aside0.mk (below_step (below_alloc (Below.refl _ _) _) hB2); clear hB2 g0 g1 g2 g3 g4; have HI2 := Aside0.mk (blk_below HI1.out HB2.out); have HC2 := Aside0.mk (blk_below HC1.out HB2.out); obtain ⟨g0, g1, g2, g3, g4⟩ := HX.out _ _ HC2.out)
    | (go_at_call 32; (with_reducible refine (HK.out _ w.heap.size 3 8 _ _ (by decide) (by decide) (C_ints2 (blk_new _ _)) (blk_alloc HI2.out _)).mono ?_); rintro e w3 ⟨rfl, hB3⟩; rw [hk2]; have HB3 := Aside0.mk (below_step (below_alloc (Below.refl _ _) _) hB3); clear hB3 g0 g1 g2 g3 g4))
  go_ret
  exact ⟨rfl, below_step (below_step (below_step (below_alloc (below_alloc (Below.refl w.heap.size w) _) _) HB1.out) HB2.out) HB3.out⟩
end Go.Proofs.Ytlkkdpmloeipjaa
