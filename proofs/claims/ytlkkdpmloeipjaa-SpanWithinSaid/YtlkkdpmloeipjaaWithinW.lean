/- carlinglaw11.SpanWithin: the walk. -/
import Derived.Test.YtlkkdpmloeipjaaWiA
import Derived.Test.YtlkkdpmloeipjaaC2
namespace Go.Proofs.Ytlkkdpmloeipjaa
open Go.RowKit Go.Proofs.YtlkkdpmloeipjaaW.PrintWords
set_option linter.unusedVariables false

set_option maxHeartbeats 8000000 in
set_option maxRecDepth 100000 in
theorem within_early (c : Code) (A1 : Option Addr) (c1 : Nat) (A4 : Option Addr) (c4 : Nat) (w : World) (hat : CodeAt w c A1 c1 A4 c4) (hwf : WfCode c) (hne : ¬ (lightC c = true ∧ c.regs ≤ 500 ∧ (rightE c).1 = 0)) :
    Calls Try.prog 8 #[codeV c A1 c1 A4 c4] w fun e w' => e = .returned (.bool true) ∧ Below w.heap.size w w' := by
  have HT := Aside0.mk hat
  have HW := Aside0.mk hwf
  have HL := Aside0.mk (fun W hb => light_lit c A1 c1 A4 c4 w W hat hb)
  clear hat hwf
  have hu2 := Try.underlying25
  cases hl : lightC c
  · rw [hl] at HL
    clear hne
    obtain ⟨name, params, regs, cells, l⟩ := c
    simp only [codeV] at *
    go_enter Try.func8, Try.ntmps8
    go_wp2_with (first
      | (go_at_call 17; (with_reducible refine (awake_any _).mono ?_); rintro e w1 ⟨rfl, hB1⟩; have HB1 := Aside0.mk (show Below (w.heap.size + 1) _ w1 from by simpa using hB1); clear hB1; obtain ⟨g0, g1, g2, g3, g4⟩ := code_box1 (c := ⟨name, params, regs, cells, l⟩) HB1.out; (try simp only at g0 g1 g2 g3 g4))
      | (go_at_call 18; (with_reducible refine (HL.out w1 (below_of_box HB1.out)).mono ?_); rintro e w2 ⟨rfl, hB2⟩; have HB2 := Aside0.mk (box_step HB1.out hB2); clear hB2 g0 g1 g2 g3 g4; obtain ⟨g0, g1, g2, g3, g4⟩ := code_box1 (c := ⟨name, params, regs, cells, l⟩) HB2.out; (try simp only at g0 g1 g2 g3 g4)))
    go_ret
    exact ⟨rfl, below_of_box HB2.out⟩
  · rw [hl] at HL
    have HO := Aside0.mk (codeOk_of HW.out hl)
    by_cases h5 : c.regs ≤ 500
    rotate_left
    · clear hne hl
      obtain ⟨name, params, regs, cells, l⟩ := c
      simp only [codeV] at *
      go_enter Try.func8, Try.ntmps8
      go_wp2_with (first
        | (go_at_call 17; (with_reducible refine (awake_any _).mono ?_); rintro e w1 ⟨rfl, hB1⟩; have HB1 := Aside0.mk (show Below (w.heap.size + 1) _ w1 from by simpa using hB1); clear hB1; obtain ⟨g0, g1, g2, g3, g4⟩ := code_box1 (c := ⟨name, params, regs, cells, l⟩) HB1.out; (try simp only at g0 g1 g2 g3 g4))
        | (go_at_call 18; (with_reducible refine (HL.out w1 (below_of_box HB1.out)).mono ?_); rintro e w2 ⟨rfl, hB2⟩; have HB2 := Aside0.mk (box_step HB1.out hB2); clear hB2 g0 g1 g2 g3 g4; obtain ⟨g0, g1, g2, g3, g4⟩ := code_box1 (c := ⟨name, params, regs, cells, l⟩) HB2.out; (try simp only at g0 g1 g2 g3 g4)))
      go_ret
      exact ⟨rfl, below_of_box HB2.out⟩
    have hr : ¬ (rightE c).1 = 0 := fun h => hne ⟨hl, h5, h⟩
    clear hne hl
    have HR := Aside0.mk (fun W (hb : Below w.heap.size w W) => rright_any c A1 c1 A4 c4 W HO.out (HT.out.below hb))
    have HS := Aside0.mk (fun W (hb : Below w.heap.size w W) => spans_any c A1 c1 A4 c4 W HO.out (HT.out.below hb))
    rw [show spansE c = [] from if_neg hr] at HS
    have hrb : ((rightE c).1 != 0) = true := bne_iff_ne.2 hr
    obtain ⟨name, params, regs, cells, l⟩ := c
    simp only [codeV] at *
    generalize rightE ⟨name, params, regs, cells, l⟩ = re at *
    obtain ⟨e1, e2⟩ := re
    simp only at hr hrb
    go_enter Try.func8, Try.ntmps8
    go_wp2_with (first
      | (go_at_call 17; (with_reducible refine (awake_any _).mono ?_); rintro e w1 ⟨rfl, hB1⟩; have HB1 := Aside0.mk (show Below (w.heap.size + 1) _ w1 from by simpa using hB1); clear hB1; obtain ⟨g0, g1, g2, g3, g4⟩ := code_box1 (c := ⟨name, params, regs, cells, l⟩) HB1.out; (try simp only at g0 g1 g2 g3 g4))
      | (go_at_call 18; (with_reducible refine (HL.out w1 (below_of_box HB1.out)).mono ?_); rintro e w2 ⟨rfl, hB2⟩; have HB2 := Aside0.mk (box_step HB1.out hB2); clear hB2 g0 g1 g2 g3 g4; obtain ⟨g0, g1, g2, g3, g4⟩ := code_box1 (c := ⟨name, params, regs, cells, l⟩) HB2.out; (try simp only at g0 g1 g2 g3 g4))
      | (go_at_call 27; (with_reducible refine (HR.out w2 (below_of_box HB2.out)).mono ?_); rintro e w3 ⟨rfl, hB3⟩; have HB3 := Aside0.mk (box_step HB2.out hB3); clear hB3 g0 g1 g2 g3 g4; obtain ⟨g0, g1, g2, g3, g4⟩ := code_box1 (c := ⟨name, params, regs, cells, l⟩) HB3.out; (try simp only at g0 g1 g2 g3 g4))
      | (go_at_call 23; (with_reducible refine (HS.out w3 (below_of_box HB3.out)).mono ?_); rintro e w4 ⟨A3, c3, rfl, hc3, hC3, hB4⟩; have HB4 := Aside0.mk (box_step HB3.out hB4); have HC3 := Aside0.mk hC3; clear hB4 hC3 g0 g1 g2 g3 g4; obtain ⟨g0, g1, g2, g3, g4⟩ := code_box1 (c := ⟨name, params, regs, cells, l⟩) HB4.out; (try simp only at g0 g1 g2 g3 g4)))
    go_ret
    exact ⟨rfl, below_of_box HB4.out⟩

set_option maxHeartbeats 16000000 in
set_option maxRecDepth 100000 in
theorem within_main (c : Code) (A1 : Option Addr) (c1 : Nat) (A4 : Option Addr) (c4 : Nat) (w : World) (hat : CodeAt w c A1 c1 A4 c4) (hwf : WfCode c) (hl : lightC c = true) (h5 : c.regs ≤ 500) (hr : (rightE c).1 = 0) :
    Calls Try.prog 8 #[codeV c A1 c1 A4 c4] w fun e w' => e = .returned (.bool true) ∧ Below w.heap.size w w' := by
  have HT := Aside0.mk hat
  have HL := Aside0.mk (fun W hb => light_lit c A1 c1 A4 c4 w W hat hb)
  rw [hl] at HL
  have HO := Aside0.mk (codeOk_of hwf hl)
  have hl3 := HO.out.len
  have HR := Aside0.mk (fun W (hb : Below w.heap.size w W) => rright_any c A1 c1 A4 c4 W HO.out (HT.out.below hb))
  have HS := Aside0.mk (fun W (hb : Below w.heap.size w W) => spans_any c A1 c1 A4 c4 W HO.out (HT.out.below hb))
  have h0 : 0 ≤ c.regs := by have := (formB_cells (right_facts hr).1).2.2.1; omega
  obtain ⟨n, hn⟩ := Int.eq_ofNat_of_zero_le h0
  have HEl := Aside0.mk (show (spansE c).length = n by unfold spansE; rw [if_pos hr, spansTo_length]; omega)
  have HSf := Aside0.mk (fun r (h : r < n) => span_facts hr (r := r) (by omega))
  have HMe := Aside0.mk (fun r s (h : r < n) (hs : (spansE c)[r]? = some s) => marks_end hr (r := r) (s := s) (by omega) hs)
  have HUs := Aside0.mk (fun k x hx => wrong_uses ((right_facts hr).2 k x hx))
  have HF1 := Aside0.mk (fun k x hx => mkTo_succ (sel := Sp.lo) (E := spansE c) (c := c) (k := k) (x := x) hx)
  have HL1 := Aside0.mk (fun k x hx => mkTo_succ (sel := Sp.hi) (E := spansE c) (c := c) (k := k) (x := x) hx)
  have HFl := Aside0.mk (fun k => show (mkTo Sp.lo (spansE c) c k).length = n by rw [mkTo_length]; omega)
  have HLl := Aside0.mk (fun k => show (mkTo Sp.hi (spansE c) c k).length = n by rw [mkTo_length]; omega)
  have HF0 := Aside0.mk (show mkTo Sp.lo (spansE c) c 0 = List.replicate n false by unfold mkTo; rw [show c.regs.toNat = n by omega])
  have HL0 := Aside0.mk (show mkTo Sp.hi (spansE c) c 0 = List.replicate n false by unfold mkTo; rw [show c.regs.toNat = n by omega])
  have hrb : ((rightE c).1 != 0) = false := bne_eq_false_iff_eq.2 hr
  clear hat hwf hl hr h0
  have hu2 := Try.underlying25
  have hu3 := Try.underlying33
  have hu4 := Try.underlying26
  obtain ⟨name, params, regs, cells, l⟩ := c
  simp only at hn h5
  subst hn
  simp only [codeV] at *
  generalize hFT : mkTo Sp.lo (spansE ⟨name, params, (n : Int), cells, l⟩) ⟨name, params, (n : Int), cells, l⟩ = FT at *
  generalize hLT : mkTo Sp.hi (spansE ⟨name, params, (n : Int), cells, l⟩) ⟨name, params, (n : Int), cells, l⟩ = LT at *
  clear hFT hLT
  generalize spansE ⟨name, params, (n : Int), cells, l⟩ = E at *
  generalize rightE ⟨name, params, (n : Int), cells, l⟩ = re at *
  obtain ⟨e1, e2⟩ := re
  simp only at hrb
  have hEl := HEl.out
  have hEb : ((E.length : Int) != (n : Int)) = false := by rw [hEl]; simp
  have HX := Aside0.mk (fun k (hk : k < l.length) => nt_Ir HT.out.l (Below.refl _ _) k hk)
  go_enter Try.func8, Try.ntmps8
  go_upto_region 11 with (first
    | (go_at_call 17; (with_reducible refine (awake_any _).mono ?_); rintro e w1 ⟨rfl, hB1⟩; have HB1 := Aside0.mk (show Below (w.heap.size + 1) _ w1 from by simpa using hB1); clear hB1; obtain ⟨g0, g1, g2, g3, g4⟩ := code_box1 (c := ⟨name, params, (n : Int), cells, l⟩) HB1.out; (try simp only at g0 g1 g2 g3 g4))
    | (go_at_call 18; (with_reducible refine (HL.out w1 (below_of_box HB1.out)).mono ?_); rintro e w2 ⟨rfl, hB2⟩; have HB2 := Aside0.mk (box_step HB1.out hB2); clear hB2 g0 g1 g2 g3 g4; obtain ⟨g0, g1, g2, g3, g4⟩ := code_box1 (c := ⟨name, params, (n : Int), cells, l⟩) HB2.out; (try simp only at g0 g1 g2 g3 g4))
    | (go_at_call 27; (with_reducible refine (HR.out w2 (below_of_box HB2.out)).mono ?_); rintro e w3 ⟨rfl, hB3⟩; have HB3 := Aside0.mk (box_step HB2.out hB3); clear hB3 g0 g1 g2 g3 g4; obtain ⟨g0, g1, g2, g3, g4⟩ := code_box1 (c := ⟨name, params, (n : Int), cells, l⟩) HB3.out; (try simp only at g0 g1 g2 g3 g4))
    | (go_at_call 23; (with_reducible refine (HS.out w3 (below_of_box HB3.out)).mono ?_); rintro e w4 ⟨A3, c3, rfl, hc3, hC3, hB4⟩; have HB4 := Aside0.mk (box_step HB3.out hB4); have HC3 := Aside0.mk hC3; clear hB4 hC3 g0 g1 g2 g3 g4; obtain ⟨g0, g1, g2, g3, g4⟩ := code_box1 (c := ⟨name, params, (n : Int), cells, l⟩) HB4.out; (try simp only at g0 g1 g2 g3 g4)))
  have L2 : ∀ (W : World), Below w4.heap.size w4 W → W.cell? ⟨w.heap.size, 2, none⟩ = some (.int .i64 n) := fun W h => pw_cell_below h g2
  have HL2 := Aside0.mk L2
  clear L2
  go_wp2_with (first
    | (at_make; refine Kd.R_make Kd.bool (w0 := w4) w4.heap.size 4 rfl rfl 45 (.tmp 50) (.tmp 50) rfl (n : Int) rfl rfl Try.underlying45 (.bool false) 1 info_b rfl (by decide) (by decide) false (ok := fun _ => True) (okp := fun _ => False) rfl (fun _ h => h.elim) trivial (by omega) (by simp; omega) (Below.refl _ _) (Nat.le_refl _) ?_; intro v5 w5 hR5 hb5 _ hv5; obtain ⟨g8, c8, rfl, hg8, hF8⟩ := BRow_of_R hR5 ⟨_, hv5.choose_spec.1⟩; have HF8 := Aside0.mk hF8; have HB5 := Aside0.mk hb5; have HG8 := Aside0.mk hg8; clear hR5 hv5 hF8 g2; have g2 := HL2.out _ hb5; clear hb5)
    | (at_make; refine Kd.R_make Kd.bool (w0 := w5) w5.heap.size 4 rfl rfl 45 (.tmp 53) (.tmp 53) rfl (n : Int) rfl rfl Try.underlying45 (.bool false) 1 info_b rfl (by decide) (by decide) false (ok := fun _ => True) (okp := fun _ => False) rfl (fun _ h => h.elim) trivial (by omega) (by simp; omega) (Below.refl _ _) (Nat.le_refl _) ?_; intro v6 w6 hR6 hb6 _ hv6; obtain ⟨g9, c9, rfl, hg9, hF9⟩ := BRow_of_R hR6 ⟨_, hv6.choose_spec.1⟩; have HF9 := Aside0.mk hF9; have HB6 := Aside0.mk hb6; have HG9 := Aside0.mk hg9; clear hR6 hv6 hF9 hb6 hg9))
  have HW0 := Aside0.mk (show WiW w4 w6 g8 g9 (FT 0) (LT 0) from by
    rw [HF0.out, HL0.out]
    have h8 := HF8.out
    have h9 := HF9.out
    simp only [Int.toNat_natCast] at h8 h9
    exact ⟨below_step HB5.out HB6.out, HG8.out, Nat.le_trans HB5.out.size HG9.out, fun e => by have h1 := h8.lt; have h2 := HG9.out; omega, h8.same (HB6.out.block _ h8.lt), h9⟩)
  clear g0 g1 g2 g3 g4 hg8 HF8 HF9 HG8 HG9 HB5 HB6
  have HBx := Aside0.mk (fun W (h : Below w4.heap.size w4 W) => code_box1 (c := ⟨name, params, (n : Int), cells, l⟩) (box_step HB4.out h))
  have HCx := Aside0.mk (fun W (h : Below w4.heap.size w4 W) => Kd.C_below HC3.out h)
  have HWx := Aside0.mk (fun W (h : Below w4.heap.size w4 W) => (below_step (below_of_box HB4.out) h : Below w.heap.size w W))
  go_loopw [10] (fun v10 wr => ∃ k : Nat, k ≤ l.length ∧ v10 = .int .i64 k ∧ Aside0 (WiW w4 wr g8 g9 (FT k) (LT k))) (fun v10 _ => l.length - (intOf v10).toNat)
  case atStart => exact ⟨0, Nat.zero_le _, rfl, HW0⟩
  case round =>
    obtain ⟨k, hk, rfl, HW⟩ := hrel
    obtain ⟨g0, g1, g2, g3, g4⟩ := HBx.out _ HW.out.below
    (try simp only at g0 g1 g2 g3 g4)
    by_cases hlt : k < l.length
    · obtain ⟨x, ad, A8, c8, rfl, hx, h0, h1, h2, h3, h4, h5', h6, h7, h8, hc8, hC8⟩ := HX.out k hlt
      have HXc := Aside0.mk (fun W (hb : Below w.heap.size w W) => (show _ ∧ _ ∧ _ ∧ _ ∧ _ ∧ _ ∧ _ ∧ _ ∧ _ from ⟨pw_cell_below hb h0, pw_cell_below hb h1, pw_cell_below hb h2, pw_cell_below hb h3, pw_cell_below hb h4, pw_cell_below hb h5', pw_cell_below hb h6, pw_cell_below hb h7, pw_cell_below hb h8⟩))
      have HRd := Aside0.mk (fun W (hb : Below w.heap.size w W) => rreads_any x A8 c8 W (Kd.C_below hC8 hb) hc8)
      have HWt := Aside0.mk (fun W => rwrites_any x A8 c8 x.args.length W)
      have HFs := Aside0.mk (HF1.out k x hx)
      have HLs := Aside0.mk (HL1.out k x hx)
      have HUr := Aside0.mk (HUs.out k x hx)
      have HUk := Aside0.mk (fun r (h : r < n) (hm : (r : Int) ∈ usesL x) => (show ∃ s, E[r]? = some s ∧ s.lo ≤ k ∧ (k : Int) ≤ s.hi from by
        obtain ⟨s, e, _, hin, _⟩ := HSf.out r h
        exact ⟨s, e, hin k x hx hm⟩))
      have HRl := Aside0.mk (readsL_le x (HO.out.args x (at_mem hx)))
      have HUl := Aside0.mk (usesL_le x HRl.out)
      have HUe := Aside0.mk (show usesL x = readsL x ++ (if writesB x = true then [x.d] else []) from rfl)
      clear hx hC8 h0 h1 h2 h3 h4 h5' h6 h7 h8
      generalize usesL x = U at *
      generalize readsL x = RL at *
      generalize writesB x = wb at *
      obtain ⟨kind, op, d, a, b, cc, nn, nm, args⟩ := x
      try simp only at HXc HRd HWt HUe
      obtain ⟨h0, h1, h2, h3, h4, h5', h6, h7, h8⟩ := HXc.out wr (HWx.out _ HW.out.below)
      go_upto_if 76 with (first
        | (go_at_call 28; (with_reducible refine (HRd.out wr (HWx.out _ HW.out.below)).mono ?_); rintro e w7 ⟨A7, c7, rfl, hc7, hC7, hB7⟩; have HW7 := Aside0.mk (HW.out.step hB7); have HC7 := Aside0.mk hC7; clear hB7 hC7)
        | (at_builtin; refine list_app w4.heap.size rfl (.tmp 62) (.tmp 68) rfl (.slice none 0 0) [] RL A7 c7 rfl rfl (Kd.R_nil _ _ _ _ _) HC7.out (w0 := w4) HW7.out.below HW7.out.below.size (by have := HRl.out; simp; omega) ?_; intro v8 w8 hR8 hb8 hg8; have HW8 := Aside0.mk (HW7.out.grown (base := w4.heap.size) (xs := []) (Kd.R_nil _ _ _ _ _) hb8 hg8); have HR8 := Aside0.mk hR8; clear hR8 hb8 hg8 g0 g1 g2 g3 g4 h0 h1 h2 h3 h4 h5' h6 h7 h8; obtain ⟨g0, g1, g2, g3, g4⟩ := HBx.out _ HW8.out.below; (try simp only at g0 g1 g2 g3 g4); obtain ⟨h0, h1, h2, h3, h4, h5', h6, h7, h8⟩ := HXc.out _ (HWx.out _ HW8.out.below))
        | (go_at_call 29; (with_reducible refine (HWt.out _).mono ?_); rintro e w9 ⟨rfl, hB9⟩; have HW9 := Aside0.mk (HW8.out.step hB9); have HR9 := Aside0.mk (Kd.R_below HR8.out hB9); clear hB9 g0 g1 g2 g3 g4 h0 h1 h2 h3 h4 h5' h6 h7 h8; obtain ⟨g0, g1, g2, g3, g4⟩ := HBx.out _ HW9.out.below; (try simp only at g0 g1 g2 g3 g4); obtain ⟨h0, h1, h2, h3, h4, h5', h6, h7, h8⟩ := HXc.out _ (HWx.out _ HW9.out.below)))
      go_cut [11] (fun v11 wc => Aside0 (OwnI wc w4.heap.size v11 U) ∧ Aside0 (WiW w4 wc g8 g9 (FT k) (LT k)))
      case first =>
        cases wb
        · have HV := Aside0.mk (show U = [] ++ RL by rw [HUe.out]; simp)
          go_wp2
          go_meet
          case rel => rw [HV.out]; exact ⟨HR9, HW9⟩
        · have HV := Aside0.mk (show U = ([] ++ RL) ++ [d] by rw [HUe.out]; simp)
          go_wp2_with (at_builtin; refine list_app w4.heap.size rfl (.tmp 77) (.tmp 84) rfl v8 ([] ++ RL) [d] _ 1 rfl rfl (Kd.R_alloc HR9.out _) (C_one (blk_new _ _)) (w0 := w4) (HW9.out.step (below_alloc (Below.refl _ _) _)).below (HW9.out.step (below_alloc (Below.refl _ _) _)).below.size (by have := HRl.out; simp; omega) ?_; intro v10 w10 hR10 hb10 hg10; have HW10 := Aside0.mk ((HW9.out.step (below_alloc (Below.refl _ _) _)).grown (Kd.R_alloc HR9.out _) hb10 hg10); have HR10 := Aside0.mk hR10; clear hR10 hb10 hg10)
          go_meet
          case rel => rw [HV.out]; exact ⟨HR10, HW10⟩
      case rest =>
        obtain ⟨HRt, HWt0⟩ := hcut
        obtain ⟨AT, cT, rfl, hcT, _⟩ := Kd.R_reads HRt.out
        clear g0 g1 g2 g3 g4 h0 h1 h2 h3 h4 h5' h6 h7 h8
        have hUl := HUl.out
        generalize wr = wrOld at *
        go_wp2
        go_loopw [13] (fun v13 wr => ∃ j : Nat, j ≤ U.length ∧ v13 = .int .i64 j ∧ Aside0 (WiW w4 wr g8 g9 ((U.take j).foldl (mk1 Sp.lo E (k : Nat)) (FT k)) ((U.take j).foldl (mk1 Sp.hi E (k : Nat)) (LT k))) ∧ Aside0 (OwnI wr w4.heap.size (.slice AT U.length cT) U)) (fun v13 _ => U.length - (intOf v13).toNat)
        case atStart => exact ⟨0, Nat.zero_le _, rfl, HWt0, HRt⟩
        case round =>
          obtain ⟨j, hj, rfl, HWj, HRj⟩ := hrel
          by_cases hjl : j < U.length
          · obtain ⟨adt, r, e1', hr, hcell⟩ := nt_scalar (Kd.R_reads' HRj.out).2.2 (below_alloc (Below.refl _ _) (.cells #[] 26)) j hjl
            have hru := HUr.out r (at_mem hr)
            obtain ⟨q, rfl⟩ := Int.eq_ofNat_of_zero_le hru.1
            have hqn : q < n := by have := hru.2; omega
            obtain ⟨s, hs, hin1, hin2⟩ := HUk.out q hqn (at_mem hr)
            have HTf := Aside0.mk (show (U.take (j + 1)).foldl (mk1 Sp.lo E (k : Nat)) (FT k) = mk1 Sp.lo E (k : Nat) ((U.take j).foldl (mk1 Sp.lo E (k : Nat)) (FT k)) q from by rw [take_snoc_at hr, List.foldl_append]; rfl)
            have HTl := Aside0.mk (show (U.take (j + 1)).foldl (mk1 Sp.hi E (k : Nat)) (LT k) = mk1 Sp.hi E (k : Nat) ((U.take j).foldl (mk1 Sp.hi E (k : Nat)) (LT k)) q from by rw [take_snoc_at hr, List.foldl_append]; rfl)
            have HFj := Aside0.mk (show ((U.take j).foldl (mk1 Sp.lo E (k : Nat)) (FT k)).length = n by rw [mkf_length, HFl.out])
            have HLj := Aside0.mk (show ((U.take j).foldl (mk1 Sp.hi E (k : Nat)) (LT k)).length = n by rw [mkf_length, HLl.out])
            generalize (U.take j).foldl (mk1 Sp.lo E (k : Nat)) (FT k) = F at *
            generalize (U.take j).foldl (mk1 Sp.hi E (k : Nat)) (LT k) = La at *
            obtain ⟨bF, hbF⟩ : ∃ b, F[q]? = some b := ⟨_, List.getElem?_eq_getElem (by rw [HFj.out]; exact hqn)⟩
            obtain ⟨bL, hbL⟩ : ∃ b, La[q]? = some b := ⟨_, List.getElem?_eq_getElem (by rw [HLj.out]; exact hqn)⟩
            obtain ⟨lo, hi⟩ := s
            try simp only at hin1 hin2
            have HMf := Aside0.mk (show mk1 Sp.lo E (k : Nat) F q = F.set q (bF || ((k : Nat) : Int) == lo) by simp [mk1, List.getD, hs, hbF])
            have HMl := Aside0.mk (show mk1 Sp.hi E (k : Nat) La q = La.set q (bL || ((k : Nat) : Int) == hi) by simp [mk1, List.getD, hs, hbL])
            have HhbF := Aside0.mk hbF
            have HhbL := Aside0.mk hbL
            have Hs := Aside0.mk hs
            have Hr := Aside0.mk hr
            clear e1' hcell hr hs hru hbF hbL
            obtain ⟨adt, r0, rfl, hr0, c0⟩ := nt_scalar (Kd.R_reads' HRj.out).2.2 (Below.refl _ _) j hjl
            obtain rfl : (q : Int) = r0 := by rw [Hr.out] at hr0; exact Option.some.inj hr0
            clear hr0
            obtain ⟨s1, ad3, rfl, hs1, c1', c2⟩ := nt_Sp HC3.out HWj.out.below q (by rw [HEl.out]; exact hqn)
            obtain rfl : (⟨lo, hi⟩ : Sp) = s1 := by rw [Hs.out] at hs1; exact Option.some.inj hs1
            clear hs1
            try simp only at c1' c2
            have hin1' : ¬ (k : Int) < lo := by omega
            have hin2' : ¬ hi < (k : Int) := by omega
            have HWb := Aside0.mk (HWj.out.step (below_alloc (Below.refl _ _) (.cells #[.int .i64 lo, .int .i64 hi] 26)))
            have HRb := Aside0.mk (Kd.R_alloc HRj.out (.cells #[.int .i64 lo, .int .i64 hi] 26))
            have HBb := Aside0.mk (blk_new wr (.cells #[.int .i64 lo, .int .i64 hi] 26))
            go_upto_region 27 with (fail)
            clear c0 c1' c2
            generalize hWb : wr.alloc (.cells #[.int .i64 lo, .int .i64 hi] 26) = Wb at *
            go_cut [14] (fun v14 wc => v14 = .pointer (some ⟨wr.heap.size, 0, none⟩) ∧ Aside0 (WiW w4 wc g8 g9 (F.set q (bF || ((k : Nat) : Int) == lo)) La) ∧ Aside0 (OwnI wc w4.heap.size (.slice (some adt) U.length cT) U) ∧ Aside0 (wc.heap[wr.heap.size]? = some (.cells #[.int .i64 lo, .int .i64 hi] 26 (0, 0))))
            case first =>
              obtain ⟨adt2, r0, e2, hr0, c0⟩ := nt_scalar (Kd.R_reads' HRb.out).2.2 (Below.refl _ _) j hjl
              obtain rfl := Option.some.inj e2
              obtain rfl : (q : Int) = r0 := by rw [Hr.out] at hr0; exact Option.some.inj hr0
              clear hr0 e2
              have d0 : Wb.cell? ⟨wr.heap.size, 0, none⟩ = some (.int .i64 lo) := blk_cell HBb.out 0
              have d1 : Wb.cell? ⟨wr.heap.size, 1, none⟩ = some (.int .i64 hi) := blk_cell HBb.out 1
              have c8' := HWb.out.f.cell q bF HhbF.out
              have f8 := HWb.out.f.frozen q
              have HN := Aside0.mk (fun v => HWb.out.set8 (r := q) (by rw [HFj.out]; exact hqn) v)
              have HNr := Aside0.mk (fun u => HWb.out.own8 (u := u) (r := q) HRb.out)
              have HNb := Aside0.mk (fun u => show ((Wb.setCell ⟨g8, q, none⟩ u).heap[wr.heap.size]? = some (.cells #[.int .i64 lo, .int .i64 hi] 26 (0, 0))) from (Below.heap_setCell _ _ _ _ (by obtain ⟨cz, hz⟩ := HWb.out.f.blk; exact blk_ne HBb.out hz (by decide))).trans HBb.out)
              cases bF
              all_goals
                go_region
                go_wp2
                go_meet
                case rel => exact ⟨rfl, ⟨by first | exact (HN.out _).drew | exact HN.out _⟩, ⟨by first | exact Kd.R_drew (HNr.out _) | exact HNr.out _⟩, ⟨by first | exact blk_drew (HNb.out _) | exact HNb.out _⟩⟩
            case rest =>
              obtain ⟨rfl, HW2, HR2, HB2'⟩ := hcut
              generalize wc = Wc at *
              go_upto_region 28 with (fail)
              obtain ⟨adt2, r0, e2, hr0, c0⟩ := nt_scalar (Kd.R_reads' HR2.out).2.2 (Below.refl _ _) j hjl
              obtain rfl := Option.some.inj e2
              obtain rfl : (q : Int) = r0 := by rw [Hr.out] at hr0; exact Option.some.inj hr0
              clear hr0 e2
              have d0 : Wc.cell? ⟨wr.heap.size, 0, none⟩ = some (.int .i64 lo) := blk_cell HB2'.out 0
              have d1 : Wc.cell? ⟨wr.heap.size, 1, none⟩ = some (.int .i64 hi) := blk_cell HB2'.out 1
              have c9' := HW2.out.l.cell q bL HhbL.out
              have f9 := HW2.out.l.frozen q
              have HN := Aside0.mk (fun v => HW2.out.set9 (r := q) (by rw [HLj.out]; exact hqn) v)
              have HNr := Aside0.mk (fun u => HW2.out.own9 (u := u) (r := q) HR2.out)
              cases bL
              all_goals
                go_region
                go_wp2
                go_roundw
                case rel => exact ⟨j + 1, by omega, by go_num, ⟨by rw [HTf.out, HTl.out, HMf.out, HMl.out]; first | exact (HN.out _).drew | exact HN.out _⟩, ⟨by first | exact Kd.R_drew (HNr.out _) | exact HNr.out _⟩⟩
                case measure => simp [intOf]; omega
          · obtain rfl : U.length = j := by omega
            have HWn := Aside0.mk (show WiW w4 wr g8 g9 (FT (k + 1)) (LT (k + 1)) from by rw [HFs.out, HLs.out]; have := HWj.out; rwa [List.take_length] at this)
            go_wp2
            go_roundw
            case rel => exact ⟨k + 1, by omega, by go_num, HWn⟩
            case measure => simp [intOf]; omega
    · obtain rfl : l.length = k := by omega
      generalize wr = wa at *
      go_wp2
      go_loopw [15] (fun v15 wr => ∃ r : Nat, r ≤ n ∧ v15 = .int .i64 r ∧ Aside0 (WiW w4 wr g8 g9 (FT l.length) (LT l.length))) (fun v15 _ => n - (intOf v15).toNat)
      case atStart => exact ⟨0, Nat.zero_le _, rfl, HW⟩
      case round =>
        clear g0 g1 g2 g3 g4
        obtain ⟨r, hr, rfl, HWr⟩ := hrel
        obtain ⟨g0, g1, g2, g3, g4⟩ := HBx.out _ HWr.out.below
        (try simp only at g0 g1 g2 g3 g4)
        by_cases hrn : r < n
        · obtain ⟨s, hs, hle, _⟩ := HSf.out r hrn
          obtain ⟨m1, m2⟩ := HMe.out r s hrn hs
          obtain ⟨s1, ad3, rfl, hs1, c1', c2⟩ := nt_Sp HC3.out HWr.out.below r (by rw [HEl.out]; exact hrn)
          obtain rfl : s = s1 := by rw [hs] at hs1; exact Option.some.inj hs1
          clear hs hs1
          obtain ⟨lo, hi⟩ := s
          try simp only at hle m1 m2 c1' c2
          have HWb := Aside0.mk (HWr.out.step (below_alloc (Below.refl _ _) (.cells #[.int .i64 lo, .int .i64 hi] 26)))
          have hle' : ¬ hi < lo := by omega
          by_cases p1 : 0 ≤ lo
          · have p2 : 0 ≤ hi := by omega
            have q8 := HWb.out.f.cell r true (m1 p1)
            have q9 := HWb.out.l.cell r true (m2 p2)
            clear m1 m2
            go_wp2
            go_roundw
            case rel => exact ⟨r + 1, by omega, by go_num, HWb⟩
            case measure => simp [intOf]; omega
          · by_cases p2 : 0 ≤ hi
            · have q9 := HWb.out.l.cell r true (m2 p2)
              clear m1 m2
              go_wp2
              go_roundw
              case rel => exact ⟨r + 1, by omega, by go_num, HWb⟩
              case measure => simp [intOf]; omega
            · clear m1 m2
              go_wp2
              go_roundw
              case rel => exact ⟨r + 1, by omega, by go_num, HWb⟩
              case measure => simp [intOf]; omega
        · obtain rfl : n = r := by omega
          go_wp2
          go_ret
          exact ⟨rfl, HWx.out _ HWr.out.below⟩
theorem within_row (c : Code) (A1 : Option Addr) (c1 : Nat) (A4 : Option Addr) (c4 : Nat) {W : World} (hat : CodeAt W c A1 c1 A4 c4) (hwf : WfCode c) (_ : World) : Calls Try.prog 8 #[codeV c A1 c1 A4 c4] W fun e w' => e = .returned (.bool true) ∧ Below W.heap.size W w' := by
  by_cases h : lightC c = true ∧ c.regs ≤ 500 ∧ (rightE c).1 = 0
  · exact within_main c A1 c1 A4 c4 W hat hwf h.1 h.2.1 h.2.2
  · exact within_early c A1 c1 A4 c4 W hat hwf h
end Go.Proofs.Ytlkkdpmloeipjaa
