/- carlinglaw14.ExecMath: the walk. -/
import Derived.Test.YtddnbpgibfmolaaX15
namespace Go.Proofs.Ytddnbpgibfmolaa
open Go.RowKit Go.Proofs.YtddnbpgibfmolaaW.PrintWords
set_option linter.unusedVariables false

theorem leak4_1 {w w1 : World} {A : Option Addr} {a b c d e f g h : Int} (hC : Kd.C kLeak w A 4 [⟨a, b⟩, ⟨c, d⟩, ⟨e, f⟩, ⟨g, h⟩]) (hb : Below w.heap.size w w1) : ∃ ad, A = some ad ∧ w1.cell? ⟨ad.block, ad.off + 2, none⟩ = some (.int .i64 c) ∧ w1.cell? ⟨ad.block, ad.off + 2 + 1, none⟩ = some (.int .i64 d) := by
  obtain ⟨x1, ad, rfl, e1, c10, c11⟩ := nt_Leak (xs := [⟨a, b⟩, ⟨c, d⟩, ⟨e, f⟩, ⟨g, h⟩]) hC hb 1 (by simp)
  obtain rfl : (⟨c, d⟩ : Leak) = x1 := Option.some.inj e1
  exact ⟨ad, rfl, c10, c11⟩
theorem u32_wf {n : Int} (h : (Lit.int .u32 n).wf = true) : u32 n := by
  simp [Lit.wf, IntKind.min, IntKind.max, IntKind.signed, IntKind.bits] at h
  exact ⟨by omega, by omega⟩
theorem make_tys2 (w : World) : (Instr.makeSlice 34 (.int .i64 2) (.int .i64 2)).run Try.prog w = .ok (.slice (some ⟨w.heap.size, 0, none⟩) 2 2) (w.alloc (.cells #[.bool false, .int .i64 0, .bool false, .int .i64 0] 33)) := by kernel_rfl

set_option maxRecDepth 100000 in
set_option maxHeartbeats 16000000 in
theorem math_walk (op a b : Int) (w : World) (ha : u32 a) (hb : u32 b) :
    Calls Try.prog 6 #[.int .i64 op, .int .u32 a, .int .u32 b] w fun e w' => e = .returned (.bool true) ∧ Below w.heap.size w w' := by
  by_cases h1 : op < 1
  · go_enter Try.func6, Try.ntmps6
    go_wp2_with (go_at_call 14; (with_reducible refine (awake14_any _).mono ?_); rintro e w1 ⟨rfl, hB1⟩; have HB1 := Aside0.mk hB1; clear hB1)
    go_ret
    exact ⟨rfl, HB1.out⟩
  by_cases h2 : 10 < op
  · go_enter Try.func6, Try.ntmps6
    go_wp2_with (go_at_call 14; (with_reducible refine (awake14_any _).mono ?_); rintro e w1 ⟨rfl, hB1⟩; have HB1 := Aside0.mk hB1; clear hB1)
    go_ret
    exact ⟨rfl, HB1.out⟩
  have HU := Aside0.mk (And.intro ha hb)
  obtain ⟨a0, a1⟩ := ha
  obtain ⟨b0, b1⟩ := hb
  have hu1 := Try.underlying27
  have hu2 := Try.underlying31
  have hu3 := Try.underlying36
  have hu4 := Try.underlying38
  have hu5 := Try.underlying48
  have hmk := make_tys2
  have hbd : ∀ W : World, (Instr.build 48 #[(0, .int .i64 1), (1, .int .i64 1)]).run Try.prog W = .ok (.agg #[.int .i64 1, .int .i64 1]) W := fun _ => by kernel_rfl
  have q2 := fun W => eqLk 1 1 1 1 W
  rw [show ((1 : Int) == 1 && (1 : Int) == 1) = true from rfl] at q2
  have HC := Aside0.mk (fun (W : World) (g0 g1 g2 g3 : Nat) (h0 : W.heap[g0]? = some (.cells #[.int .i64 4, .int .i64 0, .int .i64 3, .int .i64 0, .int .i64 0, .int .u32 0, .int .i64 4, .int .i64 0, .int .i64 5, .int .i64 0, .int .i64 0, .int .u32 1, .int .i64 3, .int .i64 op, .int .i64 0, .int .i64 3, .int .i64 5, .int .u32 0, .int .i64 9, .int .i64 0, .int .i64 0, .int .i64 0, .int .i64 0, .int .u32 0] 27 (0, 0)))
    (h1' : W.heap[g1]? = some (.cells #[.bool false, .int .i64 0, .bool false, .int .i64 0] 33 (0, 0))) (h2' : W.heap[g2]? = some (.cells #[.string ⟨#[97, 46, 102]⟩, .slice (some ⟨g1, 0, none⟩) 2 2, .int .i64 0, .int .i64 0, .int .i64 2] 36 (0, 0))) (h3 : W.heap[g3]? = some (.cells #[.int .u32 a, .int .u32 b] 25 (0, 0))) =>
    (xrun_any (mMath op) (some ⟨g2, 0, none⟩) 1 (some ⟨g0, 0, none⟩) 4 nameAF [a, b] (some ⟨g3, 0, none⟩) 2 W (mMath_ok op)
      ⟨C_ent1 (x := ⟨nameAF, [⟨false, 0⟩, ⟨false, 0⟩], 0, 0, 2⟩) h2' (C_tys (l := [⟨false, 0⟩, ⟨false, 0⟩]) h1' rfl (by decide)) (Nat.le_refl _), Nat.le_refl _, C_mis (l := (mMath op).code) h0 rfl (by simp [mMath]), Nat.le_refl _⟩ (by decide)
      (C_ints h3 (fun j x hj => by match j, hj with | 0, hj => simpa using hj | 1, hj => simpa using hj | j + 2, hj => simp at hj) (by simp)) (Nat.le_refl _) (by intro r hr; simp at hr; rcases hr with rfl | rfl; exact HU.out.1; exact HU.out.2) (by simp)))
  rw [math_tells op a b (by omega) (by omega)] at HC
  simp only [imgV, mMath, nameAF, List.length_nil, List.length_cons, Nat.zero_add, Nat.reduceAdd] at HC
  go_enter Try.func6, Try.ntmps6
  go_upto_region 5 with (go_at_call 14; (with_reducible refine (awake14_any _).mono ?_); rintro e w1 ⟨rfl, hB1⟩; have HB1 := Aside0.mk hB1; clear hB1)
  have b0 := Aside0.mk (blk_alloc (blk_alloc (blk_alloc (blk_new w1 (.cells #[.int .i64 4, .int .i64 0, .int .i64 3, .int .i64 0, .int .i64 0, .int .u32 0, .int .i64 4, .int .i64 0, .int .i64 5, .int .i64 0, .int .i64 0, .int .u32 1, .int .i64 3, .int .i64 op, .int .i64 0, .int .i64 3, .int .i64 5, .int .u32 0, .int .i64 9, .int .i64 0, .int .i64 0, .int .i64 0, .int .i64 0, .int .u32 0] 27 (0, 0))) (.cells #[.bool false, .int .i64 0, .bool false, .int .i64 0] 33 (0, 0))) (.cells #[.string ⟨#[97, 46, 102]⟩, .slice (some ⟨w1.heap.size + 1, 0, none⟩) 2 2, .int .i64 0, .int .i64 0, .int .i64 2] 36 (0, 0))) (.cells #[.slice (some ⟨w1.heap.size + 1 + 1, 0, none⟩) 1 1, .slice (some ⟨w1.heap.size, 0, none⟩) 4 4, .int .i64 2] 31 (0, 0)))
  have b1 := Aside0.mk (blk_alloc (blk_alloc (blk_newn (W := w1.alloc (.cells #[.int .i64 4, .int .i64 0, .int .i64 3, .int .i64 0, .int .i64 0, .int .u32 0, .int .i64 4, .int .i64 0, .int .i64 5, .int .i64 0, .int .i64 0, .int .u32 1, .int .i64 3, .int .i64 op, .int .i64 0, .int .i64 3, .int .i64 5, .int .u32 0, .int .i64 9, .int .i64 0, .int .i64 0, .int .i64 0, .int .i64 0, .int .u32 0] 27 (0, 0))) (n := w1.heap.size + 1) (by simp) (.cells #[.bool false, .int .i64 0, .bool false, .int .i64 0] 33 (0, 0))) (.cells #[.string ⟨#[97, 46, 102]⟩, .slice (some ⟨w1.heap.size + 1, 0, none⟩) 2 2, .int .i64 0, .int .i64 0, .int .i64 2] 36 (0, 0))) (.cells #[.slice (some ⟨w1.heap.size + 1 + 1, 0, none⟩) 1 1, .slice (some ⟨w1.heap.size, 0, none⟩) 4 4, .int .i64 2] 31 (0, 0)))
  have b2 := Aside0.mk (blk_alloc (blk_newn (W := (w1.alloc (.cells #[.int .i64 4, .int .i64 0, .int .i64 3, .int .i64 0, .int .i64 0, .int .u32 0, .int .i64 4, .int .i64 0, .int .i64 5, .int .i64 0, .int .i64 0, .int .u32 1, .int .i64 3, .int .i64 op, .int .i64 0, .int .i64 3, .int .i64 5, .int .u32 0, .int .i64 9, .int .i64 0, .int .i64 0, .int .i64 0, .int .i64 0, .int .u32 0] 27 (0, 0))).alloc (.cells #[.bool false, .int .i64 0, .bool false, .int .i64 0] 33 (0, 0))) (n := w1.heap.size + 1 + 1) (by simp) (.cells #[.string ⟨#[97, 46, 102]⟩, .slice (some ⟨w1.heap.size + 1, 0, none⟩) 2 2, .int .i64 0, .int .i64 0, .int .i64 2] 36 (0, 0))) (.cells #[.slice (some ⟨w1.heap.size + 1 + 1, 0, none⟩) 1 1, .slice (some ⟨w1.heap.size, 0, none⟩) 4 4, .int .i64 2] 31 (0, 0)))
  have b3 := Aside0.mk (blk_newn (W := ((w1.alloc (.cells #[.int .i64 4, .int .i64 0, .int .i64 3, .int .i64 0, .int .i64 0, .int .u32 0, .int .i64 4, .int .i64 0, .int .i64 5, .int .i64 0, .int .i64 0, .int .u32 1, .int .i64 3, .int .i64 op, .int .i64 0, .int .i64 3, .int .i64 5, .int .u32 0, .int .i64 9, .int .i64 0, .int .i64 0, .int .i64 0, .int .i64 0, .int .u32 0] 27 (0, 0))).alloc (.cells #[.bool false, .int .i64 0, .bool false, .int .i64 0] 33 (0, 0))).alloc (.cells #[.string ⟨#[97, 46, 102]⟩, .slice (some ⟨w1.heap.size + 1, 0, none⟩) 2 2, .int .i64 0, .int .i64 0, .int .i64 2] 36 (0, 0))) (n := w1.heap.size + 1 + 1 + 1) (by simp) (.cells #[.slice (some ⟨w1.heap.size + 1 + 1, 0, none⟩) 1 1, .slice (some ⟨w1.heap.size, 0, none⟩) 4 4, .int .i64 2] 31 (0, 0)))
  have HB := Aside0.mk (below_alloc (below_alloc (below_alloc (below_alloc HB1.out (.cells #[.int .i64 4, .int .i64 0, .int .i64 3, .int .i64 0, .int .i64 0, .int .u32 0, .int .i64 4, .int .i64 0, .int .i64 5, .int .i64 0, .int .i64 0, .int .u32 1, .int .i64 3, .int .i64 op, .int .i64 0, .int .i64 3, .int .i64 5, .int .u32 0, .int .i64 9, .int .i64 0, .int .i64 0, .int .i64 0, .int .i64 0, .int .u32 0] 27 (0, 0))) (.cells #[.bool false, .int .i64 0, .bool false, .int .i64 0] 33 (0, 0))) (.cells #[.string ⟨#[97, 46, 102]⟩, .slice (some ⟨w1.heap.size + 1, 0, none⟩) 2 2, .int .i64 0, .int .i64 0, .int .i64 2] 36 (0, 0))) (.cells #[.slice (some ⟨w1.heap.size + 1 + 1, 0, none⟩) 1 1, .slice (some ⟨w1.heap.size, 0, none⟩) 4 4, .int .i64 2] 31 (0, 0)))
  generalize (((w1.alloc (.cells #[.int .i64 4, .int .i64 0, .int .i64 3, .int .i64 0, .int .i64 0, .int .u32 0, .int .i64 4, .int .i64 0, .int .i64 5, .int .i64 0, .int .i64 0, .int .u32 1, .int .i64 3, .int .i64 op, .int .i64 0, .int .i64 3, .int .i64 5, .int .u32 0, .int .i64 9, .int .i64 0, .int .i64 0, .int .i64 0, .int .i64 0, .int .u32 0] 27 (0, 0))).alloc (.cells #[.bool false, .int .i64 0, .bool false, .int .i64 0] 33 (0, 0))).alloc (.cells #[.string ⟨#[97, 46, 102]⟩, .slice (some ⟨w1.heap.size + 1, 0, none⟩) 2 2, .int .i64 0, .int .i64 0, .int .i64 2] 36 (0, 0))).alloc (.cells #[.slice (some ⟨w1.heap.size + 1 + 1, 0, none⟩) 1 1, .slice (some ⟨w1.heap.size, 0, none⟩) 4 4, .int .i64 2] 31 (0, 0)) = W at *
  have hl3 := blk_lt b3.out
  have i0 : W.cell? ⟨w1.heap.size + 1 + 1 + 1, 0, none⟩ = some (.slice (some ⟨w1.heap.size + 1 + 1, 0, none⟩) 1 1) := blk_cell b3.out 0
  have i1 : W.cell? ⟨w1.heap.size + 1 + 1 + 1, 1, none⟩ = some (.slice (some ⟨w1.heap.size, 0, none⟩) 4 4) := blk_cell b3.out 1
  have i2 : W.cell? ⟨w1.heap.size + 1 + 1 + 1, 2, none⟩ = some (.int .i64 2) := blk_cell b3.out 2
  go_upto_region 6 with (go_at_call 15; (with_reducible refine (HC.out _ w1.heap.size (w1.heap.size + 1) (w1.heap.size + 1 + 1) W.heap.size (blk_alloc b0.out _) (blk_alloc b1.out _) (blk_alloc b2.out _) (blk_new W _)).mono ?_); rintro e w2 ⟨A, c, A2, c2, rfl, hC1, hC2, hB2⟩; have HB2 := Aside0.mk (below_step HB.out (below_step (below_alloc (Below.refl W.heap.size W) _) hB2)); have HC2 := Aside0.mk hC2; clear hB2 hC1 hC2 i0 i1 i2)
  have hBo := below_alloc (Below.refl w2.heap.size w2) (.cells #[.int .u32 (opE op a b), .slice A 0 c] 38 (0, 0))
  have c4 := Aside0.mk (blk_new w2 (.cells #[.int .u32 (opE op a b), .slice A 0 c] 38 (0, 0)))
  have HC3 := Aside0.mk (Kd.C_below HC2.out hBo)
  have HB3 := Aside0.mk (below_alloc HB2.out (.cells #[.int .u32 (opE op a b), .slice A 0 c] 38 (0, 0)))
  clear HB2 HC2 hBo
  generalize w2.alloc (.cells #[.int .u32 (opE op a b), .slice A 0 c] 38 (0, 0)) = w3 at *
  go_upto_if 44 with (fail)
  go_cut [12] (fun v12 wc => v12 = .int .u32 (if a < b then 1 else 0) ∧ w3 = wc)
  case first =>
    by_cases h : a < b
    · go_wp2
      go_meet
      case rel => exact ⟨by rw [if_pos h], rfl⟩
    · go_wp2
      go_meet
      case rel => exact ⟨by first | rw [if_neg h] | rw [if_neg (Int.not_lt.2 h)], rfl⟩
  case rest =>
    obtain ⟨rfl, rfl⟩ := hcut
    have HLt := Aside0.mk (rfl : (if a < b then (1 : Int) else 0) = if a < b then 1 else 0)
    generalize hlt : (if a < b then (1 : Int) else 0) = lt at HLt ⊢
    have HLt' := Aside0.mk hlt
    clear hlt HLt
    go_upto_if 47 with (fail)
    go_cut [13] (fun v13 wc => v13 = .int .u32 (if a = b then 1 else 0) ∧ w3 = wc)
    case first =>
      by_cases h : a = b
      · have hb2 : (a == b) = true := beq_iff_eq.2 h
        have HH := Aside0.mk h
        clear h
        go_wp2
        go_meet
        case rel => exact ⟨by rw [if_pos HH.out], rfl⟩
      · have hb2 : (a == b) = false := beq_eq_false_iff_ne.2 h
        have HH := Aside0.mk h
        clear h
        go_wp2
        go_meet
        case rel => exact ⟨by rw [if_neg HH.out], rfl⟩
    case rest =>
      obtain ⟨rfl, rfl⟩ := hcut
      have HEq := Aside0.mk (rfl : (if a = b then (1 : Int) else 0) = if a = b then 1 else 0)
      generalize heq : (if a = b then (1 : Int) else 0) = eq at HEq ⊢
      have HEq' := Aside0.mk heq
      clear heq HEq
      rcases (show op = 1 ∨ op = 2 ∨ op = 3 ∨ op = 4 ∨ op = 5 ∨ op = 6 ∨ op = 7 ∨ op = 8 ∨ op = 9 ∨ op = 10 by omega) with rfl | rfl | rfl | rfl | rfl | rfl | rfl | rfl | rfl | rfl
      · have hE : opE 1 a b = (a + b) % 4294967296 := rfl
        have o0 : w3.cell? ⟨w2.heap.size, 0, none⟩ = some (.int .u32 (opE 1 a b)) := blk_cell c4.out 0
        rw [hE] at o0
        have ho := blk_lt c4.out
        have L0 := fun o => pw_cell_below (below_alloc (Below.refl w3.heap.size w3) o) o0
        obtain ⟨ad, rfl, l2, l3⟩ := leak4_1 HC3.out (Below.refl _ _)
        have L2 := fun o => pw_cell_below (below_alloc (Below.refl w3.heap.size w3) o) l2
        have L3 := fun o => pw_cell_below (below_alloc (Below.refl w3.heap.size w3) o) l3
        clear o0 hE l2 l3
        go_upto_region 13 with (fail)
        go_quiet (fail)
        go_wp2
        go_ret
        exact ⟨rfl, pw_below_drewN (below_alloc HB3.out _) _⟩
      · have hE : opE 2 a b = (a - b) % 4294967296 := rfl
        have o0 : w3.cell? ⟨w2.heap.size, 0, none⟩ = some (.int .u32 (opE 2 a b)) := blk_cell c4.out 0
        rw [hE] at o0
        have ho := blk_lt c4.out
        have L0 := fun o => pw_cell_below (below_alloc (Below.refl w3.heap.size w3) o) o0
        obtain ⟨ad, rfl, l2, l3⟩ := leak4_1 HC3.out (Below.refl _ _)
        have L2 := fun o => pw_cell_below (below_alloc (Below.refl w3.heap.size w3) o) l2
        have L3 := fun o => pw_cell_below (below_alloc (Below.refl w3.heap.size w3) o) l3
        clear o0 hE l2 l3
        go_upto_region 13 with (fail)
        go_quiet (fail)
        go_wp2
        go_ret
        exact ⟨rfl, pw_below_drewN (below_alloc HB3.out _) _⟩
      · have hE : opE 3 a b = (a * b) % 4294967296 := rfl
        have o0 : w3.cell? ⟨w2.heap.size, 0, none⟩ = some (.int .u32 (opE 3 a b)) := blk_cell c4.out 0
        rw [hE] at o0
        have ho := blk_lt c4.out
        have L0 := fun o => pw_cell_below (below_alloc (Below.refl w3.heap.size w3) o) o0
        obtain ⟨ad, rfl, l2, l3⟩ := leak4_1 HC3.out (Below.refl _ _)
        have L2 := fun o => pw_cell_below (below_alloc (Below.refl w3.heap.size w3) o) l2
        have L3 := fun o => pw_cell_below (below_alloc (Below.refl w3.heap.size w3) o) l3
        clear o0 hE l2 l3
        go_upto_region 13 with (fail)
        go_quiet (fail)
        go_wp2
        go_ret
        exact ⟨rfl, pw_below_drewN (below_alloc HB3.out _) _⟩
      · have hE : opE 4 a b = bits .and .u32 a b := (u32_and a b HU.out.1.1 HU.out.1.2 HU.out.2.1 HU.out.2.2).symm
        have o0 : w3.cell? ⟨w2.heap.size, 0, none⟩ = some (.int .u32 (opE 4 a b)) := blk_cell c4.out 0
        rw [hE] at o0
        have ho := blk_lt c4.out
        have L0 := fun o => pw_cell_below (below_alloc (Below.refl w3.heap.size w3) o) o0
        obtain ⟨ad, rfl, l2, l3⟩ := leak4_1 HC3.out (Below.refl _ _)
        have L2 := fun o => pw_cell_below (below_alloc (Below.refl w3.heap.size w3) o) l2
        have L3 := fun o => pw_cell_below (below_alloc (Below.refl w3.heap.size w3) o) l3
        clear o0 hE l2 l3
        go_upto_region 13 with (fail)
        go_quiet (fail)
        go_wp2
        go_ret
        exact ⟨rfl, pw_below_drewN (below_alloc HB3.out _) _⟩
      · have hE : opE 5 a b = bits .or .u32 a b := (u32_or a b HU.out.1.1 HU.out.1.2 HU.out.2.1 HU.out.2.2).symm
        have o0 : w3.cell? ⟨w2.heap.size, 0, none⟩ = some (.int .u32 (opE 5 a b)) := blk_cell c4.out 0
        rw [hE] at o0
        have ho := blk_lt c4.out
        have L0 := fun o => pw_cell_below (below_alloc (Below.refl w3.heap.size w3) o) o0
        obtain ⟨ad, rfl, l2, l3⟩ := leak4_1 HC3.out (Below.refl _ _)
        have L2 := fun o => pw_cell_below (below_alloc (Below.refl w3.heap.size w3) o) l2
        have L3 := fun o => pw_cell_below (below_alloc (Below.refl w3.heap.size w3) o) l3
        clear o0 hE l2 l3
        go_upto_region 13 with (fail)
        go_quiet (fail)
        go_wp2
        go_ret
        exact ⟨rfl, pw_below_drewN (below_alloc HB3.out _) _⟩
      · have hE : opE 6 a b = bits .xor .u32 a b := (u32_xor a b HU.out.1.1 HU.out.1.2 HU.out.2.1 HU.out.2.2).symm
        have o0 : w3.cell? ⟨w2.heap.size, 0, none⟩ = some (.int .u32 (opE 6 a b)) := blk_cell c4.out 0
        rw [hE] at o0
        have ho := blk_lt c4.out
        have L0 := fun o => pw_cell_below (below_alloc (Below.refl w3.heap.size w3) o) o0
        obtain ⟨ad, rfl, l2, l3⟩ := leak4_1 HC3.out (Below.refl _ _)
        have L2 := fun o => pw_cell_below (below_alloc (Below.refl w3.heap.size w3) o) l2
        have L3 := fun o => pw_cell_below (below_alloc (Below.refl w3.heap.size w3) o) l3
        clear o0 hE l2 l3
        go_upto_region 13 with (fail)
        go_quiet (fail)
        go_wp2
        go_ret
        exact ⟨rfl, pw_below_drewN (below_alloc HB3.out _) _⟩
      · have hE : opE 7 a b = a * 2 ^ (b % 32).toNat % 4294967296 := rfl
        have o0 : w3.cell? ⟨w2.heap.size, 0, none⟩ = some (.int .u32 (opE 7 a b)) := blk_cell c4.out 0
        rw [hE] at o0
        have ho := blk_lt c4.out
        have L0 := fun o => pw_cell_below (below_alloc (Below.refl w3.heap.size w3) o) o0
        obtain ⟨ad, rfl, l2, l3⟩ := leak4_1 HC3.out (Below.refl _ _)
        have L2 := fun o => pw_cell_below (below_alloc (Below.refl w3.heap.size w3) o) l2
        have L3 := fun o => pw_cell_below (below_alloc (Below.refl w3.heap.size w3) o) l3
        clear o0 hE l2 l3
        go_upto_region 13 with (fail)
        go_quiet (fail)
        go_wp2
        go_ret
        exact ⟨rfl, pw_below_drewN (below_alloc HB3.out _) _⟩
      · have hE : opE 8 a b = a / 2 ^ (b % 32).toNat := rfl
        have o0 : w3.cell? ⟨w2.heap.size, 0, none⟩ = some (.int .u32 (opE 8 a b)) := blk_cell c4.out 0
        rw [hE] at o0
        have ho := blk_lt c4.out
        have L0 := fun o => pw_cell_below (below_alloc (Below.refl w3.heap.size w3) o) o0
        obtain ⟨ad, rfl, l2, l3⟩ := leak4_1 HC3.out (Below.refl _ _)
        have L2 := fun o => pw_cell_below (below_alloc (Below.refl w3.heap.size w3) o) l2
        have L3 := fun o => pw_cell_below (below_alloc (Below.refl w3.heap.size w3) o) l3
        clear o0 hE l2 l3
        go_upto_region 13 with (fail)
        go_quiet (fail)
        go_wp2
        go_ret
        exact ⟨rfl, pw_below_drewN (below_alloc HB3.out _) _⟩
      · have hE : opE 9 a b = lt := HLt'.out
        have o0 : w3.cell? ⟨w2.heap.size, 0, none⟩ = some (.int .u32 (opE 9 a b)) := blk_cell c4.out 0
        rw [hE] at o0
        have ho := blk_lt c4.out
        have L0 := fun o => pw_cell_below (below_alloc (Below.refl w3.heap.size w3) o) o0
        obtain ⟨ad, rfl, l2, l3⟩ := leak4_1 HC3.out (Below.refl _ _)
        have L2 := fun o => pw_cell_below (below_alloc (Below.refl w3.heap.size w3) o) l2
        have L3 := fun o => pw_cell_below (below_alloc (Below.refl w3.heap.size w3) o) l3
        clear o0 hE l2 l3
        go_upto_region 13 with (fail)
        go_quiet (fail)
        go_wp2
        go_ret
        exact ⟨rfl, pw_below_drewN (below_alloc HB3.out _) _⟩
      · have hE : opE 10 a b = eq := HEq'.out
        have o0 : w3.cell? ⟨w2.heap.size, 0, none⟩ = some (.int .u32 (opE 10 a b)) := blk_cell c4.out 0
        rw [hE] at o0
        have ho := blk_lt c4.out
        have L0 := fun o => pw_cell_below (below_alloc (Below.refl w3.heap.size w3) o) o0
        obtain ⟨ad, rfl, l2, l3⟩ := leak4_1 HC3.out (Below.refl _ _)
        have L2 := fun o => pw_cell_below (below_alloc (Below.refl w3.heap.size w3) o) l2
        have L3 := fun o => pw_cell_below (below_alloc (Below.refl w3.heap.size w3) o) l3
        clear o0 hE l2 l3
        go_upto_region 13 with (fail)
        go_quiet (fail)
        go_wp2
        go_ret
        exact ⟨rfl, pw_below_drewN (below_alloc HB3.out _) _⟩
theorem math_row (op : Int) (wf0 : (Lit.int .i64 op).wf = true) (a : Int) (wf1 : (Lit.int .u32 a).wf = true) (b : Int) (wf2 : (Lit.int .u32 b).wf = true) (w : World) :
    Calls Try.prog 6 #[.int .i64 op, .int .u32 a, .int .u32 b] w fun e w' => e = .returned (.bool true) ∧ Below w.heap.size w w' :=
  math_walk op a b w (u32_wf wf1) (u32_wf wf2)
end Go.Proofs.Ytddnbpgibfmolaa
