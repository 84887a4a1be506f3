/- carlingref07.Light of one function. -/
import Derived.Test.YtlkkdpmloeipjaaA7
namespace Go.Proofs.Ytlkkdpmloeipjaa
open Go.RowKit Go.Proofs.YtlkkdpmloeipjaaW.PrintWords
set_option linter.unusedVariables false

def smallIr (x : Ir) : Bool := decide (x.name.size ≤ 100 ∧ x.args.length ≤ 20)
def bigC (c : Code) : Bool := decide (100 < c.name.size ∨ 20 < c.params.length ∨ 3000 < c.l.length ∨ 20000 < c.regs ∨ 20000 < c.cells)
/-- May a function be gone through in laws? -/
def lightC (c : Code) : Bool := !bigC c && c.l.all smallIr

set_option maxHeartbeats 4000000 in
set_option maxRecDepth 100000 in
theorem light_one (c : Code) (A : Option Addr) (cp : Nat) (w : World) (hr : Kd.C kCode w A 1 [c]) :
    Calls Try.prog 18 #[.slice A 1 cp] w fun e w' => e = .returned (.bool (lightC c)) ∧ Below w.heap.size w w' := by
  have HR := Aside0.mk hr
  clear hr
  have hu2 := Try.underlying25
  have hu3 := Try.underlying33
  go_enter Try.func18, Try.ntmps18
  go_wp2
  go_loopw [3] (fun v3 wr => ∃ k : Nat, k ≤ 1 ∧ v3 = .int .i64 k ∧ Aside0 (k = 0 ∨ lightC c = true) ∧ Aside0 (Below w.heap.size w wr)) (fun v3 _ => 1 - (intOf v3).toNat)
  case atStart => exact ⟨0, Nat.zero_le _, rfl, ⟨.inl rfl⟩, ⟨Below.refl _ _⟩⟩
  case round =>
    obtain ⟨k, hk, rfl, HK, HB⟩ := hrel
    rcases (show k = 0 ∨ k = 1 by omega) with rfl | rfl
    · obtain ⟨y, ad, A1, c1, A4, c4, rfl, hy, h0, h1, h2, h3, h4, l1, g1, l4, g4⟩ := nt_Code HR.out HB.out 0 (by simp)
      obtain rfl : c = y := Option.some.inj hy
      clear hy
      have HG4 := Aside0.mk g4
      clear g1 g4
      obtain ⟨name, params, regs, cells, l⟩ := c
      simp only [Nat.zero_mul, Addr.add_zero'] at h0 h1 h2 h3 h4 l1 l4
      by_cases hbig : bigC ⟨name, params, regs, cells, l⟩ = true
      · have HF := Aside0.mk (show lightC ⟨name, params, regs, cells, l⟩ = false by simp [lightC, hbig])
        simp only [bigC, decide_eq_true_eq] at hbig
        by_cases b1 : 100 < name.size
        · go_wp2
          go_ret
          exact ⟨ret_bool HF.out.symm, below_alloc HB.out _⟩
        by_cases b2 : 20 < params.length
        · go_wp2
          go_ret
          exact ⟨ret_bool HF.out.symm, below_alloc HB.out _⟩
        by_cases b3 : 3000 < l.length
        · go_wp2
          go_ret
          exact ⟨ret_bool HF.out.symm, below_alloc HB.out _⟩
        by_cases b4 : 20000 < regs
        · go_wp2
          go_ret
          exact ⟨ret_bool HF.out.symm, below_alloc HB.out _⟩
        have b5 : 20000 < cells := by omega
        clear hbig
        go_wp2
        go_ret
        exact ⟨ret_bool HF.out.symm, below_alloc HB.out _⟩
      · have HS := Aside0.mk (show lightC ⟨name, params, regs, cells, l⟩ = l.all smallIr by simp [lightC, hbig])
        simp only [bigC, decide_eq_true_eq] at hbig
        have b1 : ¬ 100 < name.size := by omega
        have b2 : ¬ 20 < params.length := by omega
        have b3 : ¬ 3000 < l.length := by omega
        have b4 : ¬ 20000 < regs := by omega
        have b5 : ¬ 20000 < cells := by omega
        clear hbig
        go_wp2
        go_loop [5] (fun v5 => ∃ k : Nat, k ≤ l.length ∧ v5 = .int .i64 k ∧ Aside0 ((l.take k).all smallIr = true)) (fun v5 => l.length - (intOf v5).toNat)
        case atStart => exact ⟨0, Nat.zero_le _, rfl, ⟨rfl⟩⟩
        case round =>
          obtain ⟨k, hk, rfl, HA⟩ := hrel
          by_cases hlt : k < l.length
          · obtain ⟨x, ad2, A8, c8, rfl, hx, e0, e1, e2, e3, e4, e5, e6, e7, e8, hc8, hC8⟩ := nt_Ir HG4.out (below_alloc (Below.refl _ _) (.cells #[.string name, .slice A1 params.length c1, .int .i64 regs, .int .i64 cells, .slice A4 l.length c4] 25)) k hlt
            have HX := Aside0.mk hx
            clear e0 e1 e2 e3 e4 e5 e6 hC8 hx
            obtain ⟨kind, op, d, a, b, cc, n, nm, args⟩ := x
            simp only at e7 e8 hc8
            by_cases s1 : 100 < nm.size
            · have HF := Aside0.mk (all_false (f := smallIr) HX.out (by simp [smallIr]; omega))
              go_wp2
              go_ret
              exact ⟨ret_bool (by rw [HS.out, HF.out]), below_alloc HB.out _⟩
            by_cases s2 : 20 < args.length
            · have HF := Aside0.mk (all_false (f := smallIr) HX.out (by simp [smallIr]; omega))
              go_wp2
              go_ret
              exact ⟨ret_bool (by rw [HS.out, HF.out]), below_alloc HB.out _⟩
            have HN := Aside0.mk (all_snoc (f := smallIr) HX.out HA.out (by simp [smallIr]; omega))
            go_wp2
            go_round
            case rel => exact ⟨k + 1, by omega, by go_num, HN⟩
            case measure => simp [intOf]; omega
          · obtain rfl : l.length = k := by omega
            have HT := Aside0.mk (show lightC ⟨name, params, regs, cells, l⟩ = true by rw [HS.out]; have := HA.out; rwa [List.take_length] at this)
            go_wp2
            go_roundw
            case rel => exact ⟨1, by omega, rfl, ⟨.inr HT.out⟩, ⟨below_alloc HB.out _⟩⟩
            case measure => simp [intOf]
    · have HT := Aside0.mk (show lightC c = true from HK.out.resolve_left (by decide))
      go_wp2
      go_ret
      exact ⟨ret_bool HT.out.symm, HB.out⟩
end Go.Proofs.Ytlkkdpmloeipjaa
