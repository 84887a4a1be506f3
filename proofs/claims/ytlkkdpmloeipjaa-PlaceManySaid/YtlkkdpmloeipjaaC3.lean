/- carlingref11.Calls, carlingref11.touches. -/
import Derived.Test.YtlkkdpmloeipjaaB2
import Derived.Test.YtlkkdpmloeipjaaP3
namespace Go.Proofs.Ytlkkdpmloeipjaa
open Go.RowKit Go.Proofs.YtlkkdpmloeipjaaW.PrintWords
set_option linter.unusedVariables false

set_option maxHeartbeats 4000000 in
set_option maxRecDepth 100000 in
theorem rcalls_any (c : Code) (s : Sp) (A1 : Option Addr) (c1 : Nat) (A4 : Option Addr) (c4 : Nat) (w : World) (hl3 : c.l.length ≤ 3000) (hr : Kd.C kIr w A4 c.l.length c.l) :
    Calls Try.prog 26 #[codeV c A1 c1 A4 c4, spV s] w fun e w' => e = .returned (.bool (callsB c s)) ∧ Below w.heap.size w w' := by
  have HR := Aside0.mk hr
  clear hr
  have hu2 := Try.underlying25
  have hu3 := Try.underlying33
  have HE := Aside0.mk (show callsB c s = callsTo c s c.l.length from rfl)
  obtain ⟨name, params, regs, cells, l⟩ := c
  obtain ⟨lo, hi⟩ := s
  simp only [codeV, spV] at *
  go_enter Try.func26, Try.ntmps26
  go_wp2
  go_loopw [5] (fun v5 wr => ∃ k : Nat, k ≤ l.length ∧ v5 = .int .i64 k ∧ Aside0 (callsTo ⟨name, params, regs, cells, l⟩ ⟨lo, hi⟩ k = false) ∧ Aside0 (Below (w.heap.size + 2) ((w.alloc (.cells #[.string name, .slice A1 params.length c1, .int .i64 regs, .int .i64 cells, .slice A4 l.length c4] 25)).alloc (.cells #[.int .i64 lo, .int .i64 hi] 26)) wr)) (fun v5 _ => l.length - (intOf v5).toNat)
  case atStart => exact ⟨0, Nat.zero_le _, rfl, ⟨rfl⟩, ⟨Below.refl _ _⟩⟩
  case round =>
    obtain ⟨k, hk, rfl, HA, HB⟩ := hrel
    have b0 : wr.cell? ⟨w.heap.size + 1, 0, none⟩ = some (.int .i64 lo) := box2_snd HB.out 0
    have b1 : wr.cell? ⟨w.heap.size + 1, 1, none⟩ = some (.int .i64 hi) := box2_snd HB.out 1
    have b4 : wr.cell? ⟨w.heap.size, 4, none⟩ = some (.slice A4 l.length c4) := box2_fst HB.out 4
    by_cases hlt : k < l.length
    · obtain ⟨x, ad, A8, c8, rfl, hx, e0, e1, e2, e3, e4, e5, e6, e7, e8, hc8, hC8⟩ := nt_Ir HR.out (box2_below HB.out) k hlt
      have HX := Aside0.mk hx
      clear hx hC8 hc8
      have HS := Aside0.mk (callsTo_succ (c := ⟨name, params, regs, cells, l⟩) (s := ⟨lo, hi⟩) HX.out)
      obtain ⟨kind, op, d, a, b, cc, n, nm, args⟩ := x
      simp only at e0 e1 e2 e3 e4 e5 e6 e7 e8
      by_cases hcall : kind = 7 ∧ lo < k ∧ (k : Int) < hi
      · have HF := Aside0.mk (calls_hit (c := ⟨name, params, regs, cells, l⟩) (s := ⟨lo, hi⟩) HX.out (by simp [callAt, hcall]))
        obtain ⟨rfl, q1, q2⟩ := hcall
        go_wp2
        go_ret
        exact ⟨ret_bool HF.out.symm, box2_below HB.out⟩
      · have HN := Aside0.mk (show callsTo ⟨name, params, regs, cells, l⟩ ⟨lo, hi⟩ (k + 1) = false by rw [HS.out, HA.out]; simp only [callAt, Bool.false_or, decide_eq_false_iff_not]; exact hcall)
        by_cases hk7 : kind = 7
        · subst hk7
          have hq : ¬ (lo < k ∧ (k : Int) < hi) := fun h => hcall ⟨rfl, h⟩
          clear hcall
          by_cases hq1 : lo < k
          · have hq2 : ¬ (k : Int) < hi := fun h => hq ⟨hq1, h⟩
            clear hq
            go_wp2
            go_roundw
            case rel => exact ⟨k + 1, by omega, by go_num, HN, HB⟩
            case measure => simp [intOf]; omega
          · clear hq
            go_wp2
            go_roundw
            case rel => exact ⟨k + 1, by omega, by go_num, HN, HB⟩
            case measure => simp [intOf]; omega
        · have h7b : (kind == 7) = false := beq_eq_false_iff_ne.2 hk7
          clear hcall
          go_wp2
          go_roundw
          case rel => exact ⟨k + 1, by omega, by go_num, HN, HB⟩
          case measure => simp [intOf]; omega
    · obtain rfl : l.length = k := by omega
      go_wp2
      go_ret
      exact ⟨ret_bool (by rw [HE.out, HA.out]), box2_below HB.out⟩

theorem ir_box1 {w wr : World} {x : Ir} {A : Option Addr} {cp : Nat} (h : Below (w.heap.size + 1) (w.alloc (.cells #[.int .i64 x.kind, .int .i64 x.op, .int .i64 x.d, .int .i64 x.a, .int .i64 x.b, .int .i64 x.c, .int .u32 x.n, .string x.name, .slice A x.args.length cp] 33 (0, 0))) wr) :
    wr.cell? ⟨w.heap.size, 0, none⟩ = some (.int .i64 x.kind) ∧ wr.cell? ⟨w.heap.size, 1, none⟩ = some (.int .i64 x.op) ∧ wr.cell? ⟨w.heap.size, 2, none⟩ = some (.int .i64 x.d) ∧ wr.cell? ⟨w.heap.size, 3, none⟩ = some (.int .i64 x.a) ∧
    wr.cell? ⟨w.heap.size, 4, none⟩ = some (.int .i64 x.b) ∧ wr.cell? ⟨w.heap.size, 5, none⟩ = some (.int .i64 x.c) ∧ wr.cell? ⟨w.heap.size, 6, none⟩ = some (.int .u32 x.n) ∧ wr.cell? ⟨w.heap.size, 7, none⟩ = some (.string x.name) ∧ wr.cell? ⟨w.heap.size, 8, none⟩ = some (.slice A x.args.length cp) :=
  ⟨box_cells h 0, box_cells h 1, box_cells h 2, box_cells h 3, box_cells h 4, box_cells h 5, box_cells h 6, box_cells h 7, box_cells h 8⟩

set_option maxHeartbeats 4000000 in
theorem touches_any (x : Ir) (A : Option Addr) (cp : Nat) (reg : Int) (w : World) (hr : Kd.C (Kd.int .i64) w A x.args.length x.args) (hc : x.args.length ≤ cp) (hl20 : x.args.length ≤ 20) :
    Calls Try.prog 49 #[irV x A cp, .int .i64 reg] w fun e w' => e = .returned (.bool (touchB x reg)) ∧ Below w.heap.size w w' := by
  have HRd := Aside0.mk (fun W (hb : Below w.heap.size w W) => rreads_any x A cp W (Kd.C_below hr hb) hc)
  have HE := Aside0.mk (show touchB x reg = ((readsL x).any (fun a => a == reg) || (writesB x && x.d == reg)) from rfl)
  have HWt := Aside0.mk (fun W => rwrites_any x A cp x.args.length W)
  have hlr := readsL_le x hl20
  have hu := Try.underlying33
  have HX := Aside0.mk (fun wr (h : Below (w.heap.size + 1) (w.alloc (.cells #[.int .i64 x.kind, .int .i64 x.op, .int .i64 x.d, .int .i64 x.a, .int .i64 x.b, .int .i64 x.c, .int .u32 x.n, .string x.name, .slice A x.args.length cp] 33 (0, 0))) wr) => ir_box1 (x := x) h)
  clear hr hc
  generalize readsL x = U at *
  generalize writesB x = wb at *
  generalize touchB x reg = tb at *
  obtain ⟨kind, op, d, a, b, cc, n, name, args⟩ := x
  simp only [irV] at *
  go_enter Try.func49, Try.ntmps49
  go_wp2_with (go_at_call 28; (with_reducible refine (HRd.out _ (below_alloc (Below.refl _ _) _)).mono ?_); rintro e w1 ⟨AU, cU, rfl, hcU, hCU, hB1⟩; have HB1 := Aside0.mk (show Below (w.heap.size + 1) _ w1 from by simpa using hB1); have HCU := Aside0.mk hCU; clear hB1 hCU)
  go_loopw [6] (fun v6 wr => ∃ k : Nat, k ≤ U.length ∧ v6 = .int .i64 k ∧ Aside0 ((U.take k).any (fun a => a == reg) = false) ∧ Aside0 (Below w1.heap.size w1 wr)) (fun v6 _ => U.length - (intOf v6).toNat)
  case atStart => exact ⟨0, Nat.zero_le _, rfl, ⟨rfl⟩, ⟨Below.refl _ _⟩⟩
  case round =>
    obtain ⟨k, hk, rfl, HA, HB4⟩ := hrel
    have HB := Aside0.mk (box_step HB1.out HB4.out)
    obtain ⟨g0, g1, g2, g3, g4, g5, g6, g7, g8⟩ := HX.out _ HB.out
    by_cases hlt : k < U.length
    · obtain ⟨adu, r, rfl, hr, hcell⟩ := nt_scalar HCU.out HB4.out k hlt
      have HT := Aside0.mk hr
      clear hr
      by_cases he : r = reg
      · have HF := Aside0.mk (show tb = true by rw [HE.out, any_true (f := fun a => a == reg) HT.out (by simp [he])]; rfl)
        have heb : (r == reg) = true := beq_iff_eq.2 he
        clear he
        go_wp2
        go_ret
        exact ⟨ret_bool HF.out.symm, below_of_box HB.out⟩
      · have heb : (r == reg) = false := beq_eq_false_iff_ne.2 he
        have HN := Aside0.mk (any_snoc (f := fun a => a == reg) HT.out HA.out heb)
        clear he
        go_wp2
        go_roundw
        case rel => exact ⟨k + 1, by omega, by go_num, HN, HB4⟩
        case measure => simp [intOf]; omega
    · obtain rfl : k = U.length := by omega
      have HF := Aside0.mk (show tb = (wb && d == reg) by rw [HE.out, show U.any _ = false by have := HA.out; rwa [List.take_length] at this]; rfl)
      cases wb
      · go_wp2_with (go_at_call 29; (with_reducible refine (HWt.out _).mono ?_); rintro e w2 ⟨rfl, hB2⟩; have HB2 := Aside0.mk (box_step HB.out hB2); clear hB2)
        go_ret
        exact ⟨ret_bool (by rw [HF.out]; rfl), below_of_box HB2.out⟩
      · go_wp2_with (go_at_call 29; (with_reducible refine (HWt.out _).mono ?_); rintro e w2 ⟨rfl, hB2⟩; have HB2 := Aside0.mk (box_step HB.out hB2); clear hB2 g0 g1 g2 g3 g4 g5 g6 g7 g8; obtain ⟨g0, g1, g2, g3, g4, g5, g6, g7, g8⟩ := HX.out _ HB2.out)
        go_ret
        exact ⟨ret_bool (by rw [HF.out]; rfl), below_of_box HB2.out⟩
end Go.Proofs.Ytlkkdpmloeipjaa
