/- span.Calls, carlingref11.Calls. -/
import Derived.Test.YtlkkdpmloeipjaaA14
namespace Go.Proofs.Ytlkkdpmloeipjaa
open Go.RowKit Go.Proofs.YtlkkdpmloeipjaaW.PrintWords
set_option linter.unusedVariables false

/-- Is the i-th instruction a call within the span? -/
def callAt (s : Sp) (i : Nat) (x : Ir) : Bool := decide (x.kind = 7 ∧ s.lo < i ∧ (i : Int) < s.hi)
def callsTo (c : Code) (s : Sp) (k : Nat) : Bool := (List.range k).any (fun i => match c.l[i]? with | some x => callAt s i x | none => false)
/-- Does a call stand within a span? -/
def callsB (c : Code) (s : Sp) : Bool := callsTo c s c.l.length
theorem callsTo_succ {c : Code} {s : Sp} {k : Nat} {x : Ir} (h : c.l[k]? = some x) : callsTo c s (k + 1) = (callsTo c s k || callAt s k x) := by
  simp [callsTo, List.range_succ, h]
theorem callsTo_mono {c : Code} {s : Sp} {k n : Nat} (h : k ≤ n) (ht : callsTo c s k = true) : callsTo c s n = true := by
  simp only [callsTo, List.any_eq_true, List.mem_range] at ht ⊢
  obtain ⟨i, hi, hx⟩ := ht
  exact ⟨i, by omega, hx⟩
theorem calls_hit {c : Code} {s : Sp} {k : Nat} {x : Ir} (h : c.l[k]? = some x) (hx : callAt s k x = true) : callsB c s = true :=
  callsTo_mono (k := k + 1) (List.getElem?_eq_some_iff.1 h).1 (by rw [callsTo_succ h, hx, Bool.or_true])

set_option maxHeartbeats 4000000 in
set_option maxRecDepth 100000 in
theorem calls_any (c : Code) (s : Sp) (A1 : Option Addr) (c1 : Nat) (A4 : Option Addr) (c4 : Nat) (w : World) (hl3 : c.l.length ≤ 3000) (hr : Kd.C kIr w A4 c.l.length c.l) :
    Calls Try.prog 19 #[codeV c A1 c1 A4 c4, spV s] w fun e w' => e = .returned (.bool (callsB c s)) ∧ Below w.heap.size w w' := by
  have HR := Aside0.mk hr
  clear hr
  have hu2 := Try.underlying25
  have hu3 := Try.underlying33
  have HE := Aside0.mk (show callsB c s = callsTo c s c.l.length from rfl)
  obtain ⟨name, params, regs, cells, l⟩ := c
  obtain ⟨lo, hi⟩ := s
  simp only [codeV, spV] at *
  go_enter Try.func19, Try.ntmps19
  go_wp2
  go_loopw [10] (fun v10 wr => ∃ k : Nat, k ≤ l.length ∧ v10 = .int .i64 k ∧ Aside0 (callsTo ⟨name, params, regs, cells, l⟩ ⟨lo, hi⟩ k = false) ∧ Aside0 (Below (w.heap.size + 2) ((w.alloc (.cells #[.string name, .slice A1 params.length c1, .int .i64 regs, .int .i64 cells, .slice A4 l.length c4] 25)).alloc (.cells #[.int .i64 lo, .int .i64 hi] 26)) wr)) (fun v10 _ => l.length - (intOf v10).toNat)
  case atStart => exact ⟨0, Nat.zero_le _, rfl, ⟨rfl⟩, ⟨Below.refl _ _⟩⟩
  case round =>
    obtain ⟨k, hk, rfl, HA, HB⟩ := hrel
    have b0 : ∀ o, (wr.alloc o).cell? ⟨w.heap.size + 1, 0, none⟩ = some (.int .i64 lo) := fun o => pw_cell_below (below_alloc (Below.refl _ _) o) (box2_snd HB.out 0)
    have b1 : ∀ o, (wr.alloc o).cell? ⟨w.heap.size + 1, 1, none⟩ = some (.int .i64 hi) := fun o => pw_cell_below (below_alloc (Below.refl _ _) o) (box2_snd HB.out 1)
    by_cases hlt : k < l.length
    · obtain ⟨x, ad, A8, c8, rfl, hx, e0, e1, e2, e3, e4, e5, e6, e7, e8, hc8, hC8⟩ := nt_Ir HR.out (box2_below HB.out) k hlt
      have HX := Aside0.mk hx
      clear hx hC8 hc8
      have HS := Aside0.mk (callsTo_succ (c := ⟨name, params, regs, cells, l⟩) (s := ⟨lo, hi⟩) HX.out)
      obtain ⟨kind, op, d, a, b, cc, n, nm, args⟩ := x
      simp only at e0 e1 e2 e3 e4 e5 e6 e7 e8
      by_cases hcall : kind = 7 ∧ lo < k ∧ (k : Int) < hi
      · have HF := Aside0.mk (calls_hit (c := ⟨name, params, regs, cells, l⟩) (s := ⟨lo, hi⟩) HX.out (by simp [callAt, hcall]))
        obtain ⟨rfl, q1, q2⟩ := hcall
        go_wp2
        go_ret
        exact ⟨ret_bool HF.out.symm, box2_below (box2_step HB.out (below_alloc (Below.refl _ _) _))⟩
      · have HN := Aside0.mk (show callsTo ⟨name, params, regs, cells, l⟩ ⟨lo, hi⟩ (k + 1) = false by rw [HS.out, HA.out]; simp only [callAt, Bool.false_or, decide_eq_false_iff_not]; exact hcall)
        by_cases hk7 : kind = 7
        · subst hk7
          have hq : ¬ (lo < k ∧ (k : Int) < hi) := fun h => hcall ⟨rfl, h⟩
          clear hcall
          by_cases hq1 : lo < k
          · have hq2 : ¬ (k : Int) < hi := fun h => hq ⟨hq1, h⟩
            clear hq
            go_wp2
            go_roundw
            case rel => exact ⟨k + 1, by omega, by go_num, HN, ⟨box2_step HB.out (below_alloc (Below.refl _ _) _)⟩⟩
            case measure => simp [intOf]; omega
          · clear hq
            go_wp2
            go_roundw
            case rel => exact ⟨k + 1, by omega, by go_num, HN, ⟨box2_step HB.out (below_alloc (Below.refl _ _) _)⟩⟩
            case measure => simp [intOf]; omega
        · have h7b : (kind == 7) = false := beq_eq_false_iff_ne.2 hk7
          clear hcall
          go_wp2
          go_roundw
          case rel => exact ⟨k + 1, by omega, by go_num, HN, ⟨box2_step HB.out (below_alloc (Below.refl _ _) _)⟩⟩
          case measure => simp [intOf]; omega
    · obtain rfl : l.length = k := by omega
      go_wp2
      go_ret
      exact ⟨ret_bool (by rw [HE.out, HA.out]), box2_below HB.out⟩
end Go.Proofs.Ytlkkdpmloeipjaa
