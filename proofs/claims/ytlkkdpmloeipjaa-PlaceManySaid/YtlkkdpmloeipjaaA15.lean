/- carlinglaw11.awake. -/
import Derived.Test.YtlkkdpmloeipjaaA14
import Derived.Deep.RegionHeld3
namespace Go.Proofs.Ytlkkdpmloeipjaa
open Go.RowKit Go.Proofs.YtlkkdpmloeipjaaW.PrintWords
set_option linter.unusedVariables false

/-- The function of 'awake'. -/
def cAwake : Code := ⟨⟨#[97, 46, 102]⟩, [], 2, 0, [⟨1, 0, 0, 0, 0, 0, 5, ⟨#[]⟩, []⟩, ⟨3, 1, 1, 0, 0, 0, 0, ⟨#[]⟩, []⟩, ⟨10, 0, 0, 1, 0, 0, 0, ⟨#[]⟩, []⟩]⟩
theorem ok_awake : CodeOk cAwake := ⟨by decide, by decide, by decide, by decide, by decide, by decide, by decide, by decide⟩
theorem spans_awake : spansE cAwake = [⟨0, 1⟩, ⟨1, 2⟩] := by kernel_rfl
theorem C_awake {w : World} {g : Nat} (hb : w.heap[g]? = some (.cells #[.int .i64 1, .int .i64 0, .int .i64 0, .int .i64 0, .int .i64 0, .int .i64 0, .int .u32 5, .string ⟨#[]⟩, .slice none 0 0, .int .i64 3, .int .i64 1, .int .i64 1, .int .i64 0, .int .i64 0, .int .i64 0, .int .u32 0, .string ⟨#[]⟩, .slice none 0 0, .int .i64 10, .int .i64 0, .int .i64 0, .int .i64 1, .int .i64 0, .int .i64 0, .int .u32 0, .string ⟨#[]⟩, .slice none 0 0] 33 (0, 0))) : Kd.C kIr w (some ⟨g, 0, none⟩) cAwake.l.length cAwake.l := by
  refine C_blk hb ⟨rfl, fun j p hj => ?_⟩ (by decide)
  match j, hj with
  | 0, hj =>
    obtain rfl : (⟨1, 0, 0, 0, 0, 0, 5, ⟨#[]⟩, []⟩ : Ir) = p := Option.some.inj hj
    exact kIr_mk w _ (Nat.le_refl _) (Kd.C_nil _ _)
  | 1, hj =>
    obtain rfl : (⟨3, 1, 1, 0, 0, 0, 0, ⟨#[]⟩, []⟩ : Ir) = p := Option.some.inj hj
    exact kIr_mk w _ (Nat.le_refl _) (Kd.C_nil _ _)
  | 2, hj =>
    obtain rfl : (⟨10, 0, 0, 1, 0, 0, 0, ⟨#[]⟩, []⟩ : Ir) = p := Option.some.inj hj
    exact kIr_mk w _ (Nat.le_refl _) (Kd.C_nil _ _)
  | j + 3, hj => simp [cAwake] at hj

set_option maxHeartbeats 4000000 in
set_option maxRecDepth 100000 in
theorem awake_any (w : World) : Calls Try.prog 17 #[] w fun e w' => e = .returned (.bool true) ∧ Below w.heap.size w w' := by
  have hu2 := Try.underlying25
  have hu3 := Try.underlying33
  have hu4 := Try.underlying26
  have HC := Aside0.mk (fun (W : World) (g : Nat) (hb : W.heap[g]? = some (.cells #[.int .i64 1, .int .i64 0, .int .i64 0, .int .i64 0, .int .i64 0, .int .i64 0, .int .u32 5, .string ⟨#[]⟩, .slice none 0 0, .int .i64 3, .int .i64 1, .int .i64 1, .int .i64 0, .int .i64 0, .int .i64 0, .int .u32 0, .string ⟨#[]⟩, .slice none 0 0, .int .i64 10, .int .i64 0, .int .i64 0, .int .i64 1, .int .i64 0, .int .i64 0, .int .u32 0, .string ⟨#[]⟩, .slice none 0 0] 33 (0, 0))) => spans_any cAwake none 0 (some ⟨g, 0, none⟩) 3 W ok_awake ⟨Kd.C_nil _ _, Nat.le_refl _, C_awake hb, Nat.le_refl _⟩)
  rw [spans_awake] at HC
  simp only [codeV, cAwake, List.length_nil, List.length_cons, Nat.zero_add, Nat.reduceAdd] at HC
  go_enter Try.func17, Try.ntmps17
  go_wp2_with (go_at_call 23; (with_reducible refine (HC.out _ w.heap.size (blk_alloc (blk_new _ _) _)).mono ?_); rintro e w1 ⟨A, c, rfl, hcap, hCs, hB1⟩; have HB1 := Aside0.mk hB1; have HCs := Aside0.mk hCs; clear hB1 hCs)
  obtain ⟨x0, ad, rfl, e0, c00, c01⟩ := nt_Sp HCs.out (Below.refl _ _) 0 (by decide)
  obtain ⟨x1, ad', e', e1, c10, c11⟩ := nt_Sp HCs.out (Below.refl _ _) 1 (by decide)
  injection e' with e'
  subst e'
  obtain rfl : (⟨0, 1⟩ : Sp) = x0 := Option.some.inj e0
  obtain rfl : (⟨1, 2⟩ : Sp) = x1 := Option.some.inj e1
  simp only [Nat.zero_mul, Nat.one_mul, Addr.add_zero', Addr.add_succ', Nat.add_assoc, Nat.reduceAdd] at c00 c01 c10 c11
  have m1 : meetB ⟨0, 1⟩ ⟨1, 2⟩ = false := rfl
  have m2 : meetB ⟨0, 1⟩ ⟨0, 1⟩ = true := rfl
  have HM1 := Aside0.mk (fun W => meet_any ⟨0, 1⟩ ⟨1, 2⟩ W)
  have HM2 := Aside0.mk (fun W => meet_any ⟨0, 1⟩ ⟨0, 1⟩ W)
  rw [m1] at HM1
  rw [m2] at HM2
  simp only [spV] at HM1 HM2
  clear m1 m2 e0 e1
  have q1 := fun W => eqSp 0 1 0 1 W
  have q2 := fun W => eqSp 1 2 1 2 W
  rw [show ((0 : Int) == 0 && (1 : Int) == 1) = true from rfl] at q1
  rw [show ((1 : Int) == 1 && (2 : Int) == 2) = true from rfl] at q2
  have HL := fun (w' : World) (h : Below w1.heap.size w1 w') => (show Below w1.heap.size w1 w' ∧ w'.cell? ad = some (.int .i64 0) ∧ w'.cell? ⟨ad.block, ad.off + 1, none⟩ = some (.int .i64 1) ∧ w'.cell? ⟨ad.block, ad.off + 2, none⟩ = some (.int .i64 1) ∧ w'.cell? ⟨ad.block, ad.off + 3, none⟩ = some (.int .i64 2) from ⟨h, pw_cell_below h c00, pw_cell_below h c01, pw_cell_below h c10, pw_cell_below h c11⟩)
  have HL' := Aside0.mk HL
  clear HL c00 c01 c10 c11
  go_region_held3 (fun w' => Below w1.heap.size w1 w' ∧ w'.cell? ad = some (.int .i64 0) ∧ w'.cell? ⟨ad.block, ad.off + 1, none⟩ = some (.int .i64 1) ∧ w'.cell? ⟨ad.block, ad.off + 2, none⟩ = some (.int .i64 1) ∧ w'.cell? ⟨ad.block, ad.off + 3, none⟩ = some (.int .i64 2))
    (first | exact HL'.out _ (below_drew1 (Below.refl _ _)) | exact HL'.out _ (below_step (And.left ‹Below _ _ _ ∧ _›) hB2))
    (first
    | (go_at_call 20; (with_reducible refine (HM1.out _).mono ?_); rintro e w2 ⟨rfl, hB2⟩)
    | (go_at_call 20; (with_reducible refine (HM2.out _).mono ?_); rintro e w2 ⟨rfl, hB2⟩))
  go_wp2
  go_ret
  exact ⟨rfl, below_step (below_step (below_alloc (below_alloc (Below.refl w.heap.size w) _) _) HB1.out) (And.left ‹Below _ _ _ ∧ _›)⟩
end Go.Proofs.Ytlkkdpmloeipjaa
