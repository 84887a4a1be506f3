/- carlingref07.wrong. -/
import Derived.Test.YtlkkdpmloeipjaaA10
namespace Go.Proofs.Ytlkkdpmloeipjaa
open Go.RowKit Go.Proofs.YtlkkdpmloeipjaaW.PrintWords
set_option linter.unusedVariables false

set_option maxHeartbeats 4000000 in
set_option maxRecDepth 100000 in
theorem rwrong_14 (c : Code) (A1 : Option Addr) (c1 : Nat) (A4 : Option Addr) (c4 : Nat) (i : Nat) (x : Ir) (w : World) (hx : c.l[i]? = some x) (h100 : x.name.size ≤ 100) (hr : Kd.C kIr w A4 c.l.length c.l) (h14 : bad14 x = true) :
    Calls Try.prog 51 #[codeV c A1 c1 A4 c4, .int .i64 i] w fun e w' => e = .returned (.int .i64 14) ∧ Below w.heap.size w w' := by
  have hi := (List.getElem?_eq_some_iff.1 hx).1
  obtain ⟨y, ad, A8, c8, rfl, hy, h0, h1, h2, h3, h4, h5, h6, h7, h8, hc8, hC8⟩ := nt_Ir hr (below_alloc (Below.refl w.heap.size w) (.cells #[.string c.name, .slice A1 c.params.length c1, .int .i64 c.regs, .int .i64 c.cells, .slice A4 c.l.length c4] 25)) i hi
  obtain rfl : y = x := by rw [hx] at hy; exact (Option.some.inj hy).symm
  clear hr hx hy hC8 hc8
  obtain ⟨cname, params, regs, cells, l⟩ := c
  obtain ⟨kind, op, d, a, b, cc, n, name, args⟩ := y
  simp only [codeV, bad14, decide_eq_true_eq] at *
  have hs : name.size ≤ 140737488351232 := by omega
  have hu := Try.underlying33
  have hu2 := Try.underlying25
  rcases h14 with h | h | ⟨h, hop | hop⟩ | ⟨h, ha | hn⟩
  · go_enter Try.func51, Try.ntmps51
    go_wp2
    go_ret
    exact ⟨rfl, below_alloc (below_alloc (Below.refl _ _) _) _⟩
  · have hk : ¬ kind < 1 := by omega
    go_enter Try.func51, Try.ntmps51
    go_wp2
    go_ret
    exact ⟨rfl, below_alloc (below_alloc (Below.refl _ _) _) _⟩
  · subst h
    go_enter Try.func51, Try.ntmps51
    go_wp2
    go_ret
    exact ⟨rfl, below_alloc (below_alloc (Below.refl _ _) _) _⟩
  · subst h
    have hop2 : ¬ op < 1 := by omega
    go_enter Try.func51, Try.ntmps51
    go_wp2
    go_ret
    exact ⟨rfl, below_alloc (below_alloc (Below.refl _ _) _) _⟩
  · subst h
    go_enter Try.func51, Try.ntmps51
    go_wp2
    go_ret
    exact ⟨rfl, below_alloc (below_alloc (Below.refl _ _) _) _⟩
  · subst h
    by_cases ha : 6 < args.length
    · go_enter Try.func51, Try.ntmps51
      go_wp2
      go_ret
      exact ⟨rfl, below_alloc (below_alloc (Below.refl _ _) _) _⟩
    · go_enter Try.func51, Try.ntmps51
      go_wp2_with (go_at_call 50; (with_reducible refine (rnamed_any name _ hs).mono ?_); rintro e w' ⟨rfl, n, rfl⟩)
      go_ret
      exact ⟨rfl, pw_below_drewN (below_alloc (below_alloc (Below.refl _ _) _) _) _⟩
set_option maxHeartbeats 8000000 in
set_option maxRecDepth 100000 in
theorem rwrong_on (c : Code) (A1 : Option Addr) (c1 : Nat) (A4 : Option Addr) (c4 : Nat) (i : Nat) (x : Ir) (w : World) (hx : c.l[i]? = some x) (h100 : x.name.size ≤ 100) (hl3 : c.l.length ≤ 3000) (ha20 : x.args.length ≤ 20) (hn : 0 ≤ x.n ∧ x.n < 4294967296)
    (hc0 : 0 ≤ c.cells) (hc1 : c.cells ≤ 20000) (hr : Kd.C kIr w A4 c.l.length c.l) (h14 : bad14 x = false) :
    Calls Try.prog 51 #[codeV c A1 c1 A4 c4, .int .i64 i] w fun e w' => e = .returned (.int .i64 (wrongE c i x)) ∧ Below w.heap.size w w' := by
  have hi := (List.getElem?_eq_some_iff.1 hx).1
  obtain ⟨y, ad, A8, c8, rfl, hy, h0, h1, h2, h3, h4, h5, h6, h7, h8, hc8, hC8⟩ := nt_Ir hr (below_alloc (Below.refl w.heap.size w) (.cells #[.string c.name, .slice A1 c.params.length c1, .int .i64 c.regs, .int .i64 c.cells, .slice A4 c.l.length c4] 25)) i hi
  obtain rfl : y = x := by rw [hx] at hy; exact (Option.some.inj hy).symm
  have HX := Aside0.mk hx
  have HW := Aside0.mk (show wrongE c i y = if bad15 c y = true then 15 else if bad16 c y = true then 16 else if bad17 c i y = true then 17 else if bad18 c i y = true then 18 else 0 by unfold wrongE; rw [if_neg (by rw [h14]; decide)])
  have HLn := Aside0.mk (readsL_le y ha20)
  clear hr hx hy
  obtain ⟨cname, params, regs, cells, l⟩ := c
  obtain ⟨kind, op, d, a, b, cc, n, name, args⟩ := y
  simp only [codeV] at *
  have HC8 := Aside0.mk hC8
  clear hC8
  have hs : name.size ≤ 140737488351232 := by omega
  have hu := Try.underlying33
  have hu2 := Try.underlying25
  have H14 := Aside0.mk h14
  clear h14
  go_enter Try.func51, Try.ntmps51
  go_upto_region 2 with (fail)
  go_cut [52] (fun v52 wc => v52 = .bool false ∧ Aside0 (Below (w.heap.size + 2) ((w.alloc (.cells #[.string cname, .slice A1 params.length c1, .int .i64 regs, .int .i64 cells, .slice (some ad) l.length c4] 25)).alloc (.cells #[.int .i64 kind, .int .i64 op, .int .i64 d, .int .i64 a, .int .i64 b, .int .i64 cc, .int .u32 n, .string name, .slice A8 args.length c8] 33)) wc))
  case first =>
    have h14 := H14.out
    simp only [bad14, decide_eq_false_iff_not] at h14
    have k1 : ¬ kind < 1 := fun h => h14 (.inl h)
    have k2 : ¬ 10 < kind := fun h => h14 (.inr (.inl h))
    by_cases h3 : kind = 3
    · have o1 : ¬ op < 1 := fun h => h14 (.inr (.inr (.inl ⟨h3, .inl h⟩)))
      have o2 : ¬ 10 < op := fun h => h14 (.inr (.inr (.inl ⟨h3, .inr h⟩)))
      clear h14 k1 k2
      subst h3
      go_wp2
      go_meet
      case rel => exact ⟨rfl, ⟨Below.refl _ _⟩⟩
    · by_cases h7 : kind = 7
      · have a6 : ¬ 6 < args.length := fun h => h14 (.inr (.inr (.inr ⟨h7, .inl h⟩)))
        have nm : namedB name = true := by
          cases hb : namedB name with
          | true => rfl
          | false => exact absurd (.inr (.inr (.inr ⟨h7, .inr hb⟩))) h14
        clear h14 k1 k2 h3
        subst h7
        go_wp2_with (go_at_call 50; (with_reducible refine (rnamed_any name _ hs).mono ?_); rintro e w' ⟨rfl, n, rfl⟩)
        go_meet
        case rel => exact ⟨by first | rfl | exact congrArg Value.bool (decide_eq_false (by omega)), ⟨pw_below_drewN (Below.refl _ _) _⟩⟩
      · have e3 : (kind == 3) = false := beq_eq_false_iff_ne.2 h3
        have e7 : (kind == 7) = false := beq_eq_false_iff_ne.2 h7
        clear h14 h3 h7
        go_wp2
        go_meet
        case rel => exact ⟨rfl, ⟨Below.refl _ _⟩⟩
  case rest =>
    obtain ⟨rfl, HB0⟩ := hcut
    obtain ⟨e0, e1, e2, e3, e4, e5, e6, e7, e8⟩ := ir_box (x := ⟨kind, op, d, a, b, cc, n, name, args⟩) HB0.out
    simp only at e0 e1 e2 e3 e4 e5 e6 e7 e8
    clear h0 h1 h2 h3 h4 h5 h6 h7 h8
    go_wp2_with (go_at_call 28; (with_reducible refine (rreads_any ⟨kind, op, d, a, b, cc, n, name, args⟩ A8 c8 _ (Kd.C_below (Kd.C_below HC8.out (below_alloc (Below.refl _ _) _)) (HB0.out.mono (by simp))) hc8).mono ?_); rintro e w1 ⟨A, cp, rfl, hcp, hCl, hB1⟩; have HB1 := Aside0.mk (box2_step HB0.out hB1); have HCl := Aside0.mk hCl; clear hB1 hCl e0 e1 e2 e3 e4 e5 e6 e7 e8)
    have HR := Aside0.mk (show bad15 ⟨cname, params, regs, cells, l⟩ ⟨kind, op, d, a, b, cc, n, name, args⟩ = ((readsL ⟨kind, op, d, a, b, cc, n, name, args⟩).any (outReg ⟨cname, params, regs, cells, l⟩) || (writesB ⟨kind, op, d, a, b, cc, n, name, args⟩ && outReg ⟨cname, params, regs, cells, l⟩ d)) from rfl)
    have hul := HLn.out
    generalize readsL ⟨kind, op, d, a, b, cc, n, name, args⟩ = U at *
    go_loopw [7] (fun v7 wr => ∃ k : Nat, k ≤ U.length ∧ v7 = .int .i64 k ∧ Aside0 ((U.take k).any (outReg ⟨cname, params, regs, cells, l⟩) = false) ∧ Aside0 (Below w1.heap.size w1 wr)) (fun v7 _ => U.length - (intOf v7).toNat)
    case atStart => exact ⟨0, Nat.zero_le _, rfl, ⟨rfl⟩, ⟨Below.refl _ _⟩⟩
    case round =>
      obtain ⟨k, hk, rfl, HA, HB4⟩ := hrel
      have HB := Aside0.mk (box2_step HB1.out HB4.out)
      obtain ⟨g0, g1, g2, g3, g4, g5, g6, g7, g8⟩ := ir_box (x := ⟨kind, op, d, a, b, cc, n, name, args⟩) HB.out
      obtain ⟨f2, f3, f4⟩ := code_box (c := ⟨cname, params, regs, cells, l⟩) HB.out
      simp only at g0 g1 g2 g3 g4 g5 g6 g7 g8 f2 f3 f4
      by_cases hlt : k < U.length
      · obtain ⟨adu, r, rfl, hr, hcell⟩ := nt_scalar HCl.out HB4.out k hlt
        have HT := Aside0.mk hr
        clear hr
        by_cases hbad : r < 0 ∨ regs ≤ r
        · have HX5 := Aside0.mk (any_true (f := outReg ⟨cname, params, regs, cells, l⟩) HT.out (by simp [outReg, hbad]))
          have HE := Aside0.mk (show bad15 ⟨cname, params, regs, cells, l⟩ ⟨kind, op, d, a, b, cc, n, name, args⟩ = true by rw [HR.out, HX5.out]; rfl)
          have HF := Aside0.mk (show wrongE ⟨cname, params, regs, cells, l⟩ i ⟨kind, op, d, a, b, cc, n, name, args⟩ = 15 by rw [HW.out, if_pos HE.out])
          rcases hbad with hbad | hbad
          · go_wp2
            go_quiet (fail)
            go_wp2
            go_ret
            exact ⟨ret_i64 HF.out.symm, box2_below (box2_step HB.out (pw_below_drewN (Below.refl _ _) _))⟩
          · by_cases hr0 : r < 0
            · go_wp2
              go_quiet (fail)
              go_wp2
              go_ret
              exact ⟨ret_i64 HF.out.symm, box2_below (box2_step HB.out (pw_below_drewN (Below.refl _ _) _))⟩
            · go_wp2
              go_quiet (fail)
              go_wp2
              go_ret
              exact ⟨ret_i64 HF.out.symm, box2_below (box2_step HB.out (pw_below_drewN (Below.refl _ _) _))⟩
        · have HN := Aside0.mk (any_snoc (f := outReg ⟨cname, params, regs, cells, l⟩) HT.out HA.out (by simp [outReg]; omega))
          have b1 : ¬ r < 0 := fun h => hbad (.inl h)
          have b2 : ¬ regs ≤ r := fun h => hbad (.inr h)
          clear hbad
          go_wp2
          go_quiet (fail)
          go_wp2
          go_roundw
          case rel => exact ⟨k + 1, by omega, by go_num, HN, ⟨pw_below_drewN HB4.out _⟩⟩
          case measure => simp [intOf]; omega
      · obtain rfl : k = U.length := by omega
        generalize wr = wa at *
        have HRf := Aside0.mk (show bad15 ⟨cname, params, regs, cells, l⟩ ⟨kind, op, d, a, b, cc, n, name, args⟩ = (writesB ⟨kind, op, d, a, b, cc, n, name, args⟩ && outReg ⟨cname, params, regs, cells, l⟩ d) by rw [HR.out, show U.any _ = false by have := HA.out; rwa [List.take_length] at this]; rfl)
        by_cases hd : writesB ⟨kind, op, d, a, b, cc, n, name, args⟩ = true ∧ (d < 0 ∨ regs ≤ d)
        · obtain ⟨hw, hbad⟩ := hd
          have HE := Aside0.mk (show bad15 ⟨cname, params, regs, cells, l⟩ ⟨kind, op, d, a, b, cc, n, name, args⟩ = true by rw [HRf.out, hw]; simp [outReg, hbad])
          have HF := Aside0.mk (show wrongE ⟨cname, params, regs, cells, l⟩ i ⟨kind, op, d, a, b, cc, n, name, args⟩ = 15 by rw [HW.out, if_pos HE.out])
          by_cases hr0 : d < 0
          · clear hbad
            go_wp2_with (go_at_call 29; (with_reducible refine (rwrites_any ⟨kind, op, d, a, b, cc, n, name, args⟩ A8 c8 args.length _).mono ?_); rintro e w2 ⟨rfl, hB2⟩; have HB2 := Aside0.mk (box2_step HB.out hB2); clear hB2 g0 g1 g2 g3 g4 g5 g6 g7 g8 f2 f3 f4; obtain ⟨g0, g1, g2, g3, g4, g5, g6, g7, g8⟩ := ir_box (x := ⟨kind, op, d, a, b, cc, n, name, args⟩) HB2.out; simp only at g0 g1 g2 g3 g4 g5 g6 g7 g8; obtain ⟨f2, f3, f4⟩ := code_box (c := ⟨cname, params, regs, cells, l⟩) HB2.out; simp only at f2 f3 f4)
            go_ret
            exact ⟨ret_i64 HF.out.symm, box2_below HB2.out⟩
          · have hr1 : regs ≤ d := by omega
            clear hbad
            go_wp2_with (go_at_call 29; (with_reducible refine (rwrites_any ⟨kind, op, d, a, b, cc, n, name, args⟩ A8 c8 args.length _).mono ?_); rintro e w2 ⟨rfl, hB2⟩; have HB2 := Aside0.mk (box2_step HB.out hB2); clear hB2 g0 g1 g2 g3 g4 g5 g6 g7 g8 f2 f3 f4; obtain ⟨g0, g1, g2, g3, g4, g5, g6, g7, g8⟩ := ir_box (x := ⟨kind, op, d, a, b, cc, n, name, args⟩) HB2.out; simp only at g0 g1 g2 g3 g4 g5 g6 g7 g8; obtain ⟨f2, f3, f4⟩ := code_box (c := ⟨cname, params, regs, cells, l⟩) HB2.out; simp only at f2 f3 f4)
            go_ret
            exact ⟨ret_i64 HF.out.symm, box2_below HB2.out⟩
        · have H15 := Aside0.mk (show bad15 ⟨cname, params, regs, cells, l⟩ ⟨kind, op, d, a, b, cc, n, name, args⟩ = false by
            rw [HRf.out]
            cases hw : writesB ⟨kind, op, d, a, b, cc, n, name, args⟩ with
            | false => rfl
            | true =>
              have : ¬ (d < 0 ∨ regs ≤ d) := fun h => hd ⟨hw, h⟩
              simp [outReg]; omega)
          have HW2 := Aside0.mk (HW.out.trans (if_neg (by rw [H15.out]; decide)))
          go_upto_region 10 with (fail)
          go_cut [88] (fun v88 wc => v88 = .bool false ∧ Aside0 (Below (w.heap.size + 2) ((w.alloc (.cells #[.string cname, .slice A1 params.length c1, .int .i64 regs, .int .i64 cells, .slice (some ad) l.length c4] 25)).alloc (.cells #[.int .i64 kind, .int .i64 op, .int .i64 d, .int .i64 a, .int .i64 b, .int .i64 cc, .int .u32 n, .string name, .slice A8 args.length c8] 33)) wc))
          case first =>
            cases hw : writesB ⟨kind, op, d, a, b, cc, n, name, args⟩
            · go_wp2_with (go_at_call 29; (with_reducible refine (rwrites_any ⟨kind, op, d, a, b, cc, n, name, args⟩ A8 c8 args.length _).mono ?_); rintro e w2 ⟨rfl, hB2⟩; have HB2 := Aside0.mk (box2_step HB.out hB2); clear hB2 g0 g1 g2 g3 g4 g5 g6 g7 g8 f2 f3 f4; obtain ⟨g0, g1, g2, g3, g4, g5, g6, g7, g8⟩ := ir_box (x := ⟨kind, op, d, a, b, cc, n, name, args⟩) HB2.out; simp only at g0 g1 g2 g3 g4 g5 g6 g7 g8; obtain ⟨f2, f3, f4⟩ := code_box (c := ⟨cname, params, regs, cells, l⟩) HB2.out; simp only at f2 f3 f4)
              go_meet
              case rel => exact ⟨rfl, HB2⟩
            · have b1 : ¬ d < 0 := fun h => hd ⟨hw, .inl h⟩
              have b2 : ¬ regs ≤ d := fun h => hd ⟨hw, .inr h⟩
              clear hd
              go_wp2_with (go_at_call 29; (with_reducible refine (rwrites_any ⟨kind, op, d, a, b, cc, n, name, args⟩ A8 c8 args.length _).mono ?_); rintro e w2 ⟨rfl, hB2⟩; have HB2 := Aside0.mk (box2_step HB.out hB2); clear hB2 g0 g1 g2 g3 g4 g5 g6 g7 g8 f2 f3 f4; obtain ⟨g0, g1, g2, g3, g4, g5, g6, g7, g8⟩ := ir_box (x := ⟨kind, op, d, a, b, cc, n, name, args⟩) HB2.out; simp only at g0 g1 g2 g3 g4 g5 g6 g7 g8; obtain ⟨f2, f3, f4⟩ := code_box (c := ⟨cname, params, regs, cells, l⟩) HB2.out; simp only at f2 f3 f4)
              go_meet
              case rel => exact ⟨by first | rfl | exact congrArg Value.bool (by simp; omega), HB2⟩
          case rest =>
            obtain ⟨rfl, HB3⟩ := hcut
            clear g0 g1 g2 g3 g4 g5 g6 g7 g8 f2 f3 f4
            obtain ⟨g0, g1, g2, g3, g4, g5, g6, g7, g8⟩ := ir_box (x := ⟨kind, op, d, a, b, cc, n, name, args⟩) HB3.out
            obtain ⟨f2, f3, f4⟩ := code_box (c := ⟨cname, params, regs, cells, l⟩) HB3.out
            simp only at g0 g1 g2 g3 g4 g5 g6 g7 g8 f2 f3 f4
            clear HA HW hd
            by_cases k5 : kind = 5 ∨ kind = 6
            · by_cases hcn : cells ≤ n
              · rcases k5 with rfl | rfl
                · skip
                  have HF := Aside0.mk (show wrongE ⟨cname, params, regs, cells, l⟩ i ⟨5, op, d, a, b, cc, n, name, args⟩ = 16 by rw [HW2.out]; simp only [bad16, bad17, bad18, decide_eq_true_eq]; rw [if_pos (by first | omega | (refine ⟨by simp, ?_⟩; omega))])
                  go_wp2
                  all_goals (go_ret; exact ⟨ret_i64 HF.out.symm, box2_below HB3.out⟩)
                · skip
                  have HF := Aside0.mk (show wrongE ⟨cname, params, regs, cells, l⟩ i ⟨6, op, d, a, b, cc, n, name, args⟩ = 16 by rw [HW2.out]; simp only [bad16, bad17, bad18, decide_eq_true_eq]; rw [if_pos (by first | omega | (refine ⟨by simp, ?_⟩; omega))])
                  go_wp2
                  all_goals (go_ret; exact ⟨ret_i64 HF.out.symm, box2_below HB3.out⟩)
              · rcases k5 with rfl | rfl
                · skip
                  by_cases hil : (i : Int) = (l.length : Int) - 1
                  · have hib : ((i : Int) == (l.length : Int) - 1) = true := beq_iff_eq.2 hil
                    have HF := Aside0.mk (show wrongE ⟨cname, params, regs, cells, l⟩ i ⟨5, op, d, a, b, cc, n, name, args⟩ = 18 by rw [HW2.out]; simp only [bad16, bad17, bad18, decide_eq_true_eq]; rw [if_neg (by omega), if_neg (by omega), if_pos (by first | omega | (refine ⟨by simp, ?_⟩; omega))])
                    go_wp2
                    all_goals (go_ret; exact ⟨ret_i64 HF.out.symm, box2_below HB3.out⟩)
                  · have hib : ((i : Int) == (l.length : Int) - 1) = false := beq_eq_false_iff_ne.2 hil
                    have HF := Aside0.mk (show wrongE ⟨cname, params, regs, cells, l⟩ i ⟨5, op, d, a, b, cc, n, name, args⟩ = 0 by rw [HW2.out]; simp only [bad16, bad17, bad18, decide_eq_true_eq]; rw [if_neg (by omega), if_neg (by omega), if_neg (by omega)])
                    go_wp2
                    all_goals (go_ret; exact ⟨ret_i64 HF.out.symm, box2_below HB3.out⟩)
                · skip
                  by_cases hil : (i : Int) = (l.length : Int) - 1
                  · have hib : ((i : Int) == (l.length : Int) - 1) = true := beq_iff_eq.2 hil
                    have HF := Aside0.mk (show wrongE ⟨cname, params, regs, cells, l⟩ i ⟨6, op, d, a, b, cc, n, name, args⟩ = 18 by rw [HW2.out]; simp only [bad16, bad17, bad18, decide_eq_true_eq]; rw [if_neg (by omega), if_neg (by omega), if_pos (by first | omega | (refine ⟨by simp, ?_⟩; omega))])
                    go_wp2
                    all_goals (go_ret; exact ⟨ret_i64 HF.out.symm, box2_below HB3.out⟩)
                  · have hib : ((i : Int) == (l.length : Int) - 1) = false := beq_eq_false_iff_ne.2 hil
                    have HF := Aside0.mk (show wrongE ⟨cname, params, regs, cells, l⟩ i ⟨6, op, d, a, b, cc, n, name, args⟩ = 0 by rw [HW2.out]; simp only [bad16, bad17, bad18, decide_eq_true_eq]; rw [if_neg (by omega), if_neg (by omega), if_neg (by omega)])
                    go_wp2
                    all_goals (go_ret; exact ⟨ret_i64 HF.out.symm, box2_below HB3.out⟩)
            have e5 : (kind == 5) = false := beq_eq_false_iff_ne.2 (by omega)
            have e6 : (kind == 6) = false := beq_eq_false_iff_ne.2 (by omega)
            by_cases k8 : kind = 8 ∨ kind = 9
            · clear e5 e6 k5
              by_cases hci : cc ≤ i
              · rcases k8 with rfl | rfl
                · skip
                  have HF := Aside0.mk (show wrongE ⟨cname, params, regs, cells, l⟩ i ⟨8, op, d, a, b, cc, n, name, args⟩ = 17 by rw [HW2.out]; simp only [bad16, bad17, bad18, decide_eq_true_eq]; rw [if_neg (by omega), if_pos (by first | omega | (refine ⟨by simp, ?_⟩; omega))])
                  go_wp2
                  all_goals (go_ret; exact ⟨ret_i64 HF.out.symm, box2_below HB3.out⟩)
                · skip
                  have HF := Aside0.mk (show wrongE ⟨cname, params, regs, cells, l⟩ i ⟨9, op, d, a, b, cc, n, name, args⟩ = 17 by rw [HW2.out]; simp only [bad16, bad17, bad18, decide_eq_true_eq]; rw [if_neg (by omega), if_pos (by first | omega | (refine ⟨by simp, ?_⟩; omega))])
                  go_wp2
                  all_goals (go_ret; exact ⟨ret_i64 HF.out.symm, box2_below HB3.out⟩)
              · by_cases hcl : (l.length : Int) ≤ cc
                · rcases k8 with rfl | rfl
                  · skip
                    have HF := Aside0.mk (show wrongE ⟨cname, params, regs, cells, l⟩ i ⟨8, op, d, a, b, cc, n, name, args⟩ = 17 by rw [HW2.out]; simp only [bad16, bad17, bad18, decide_eq_true_eq]; rw [if_neg (by omega), if_pos (by first | omega | (refine ⟨by simp, ?_⟩; omega))])
                    go_wp2
                    all_goals (go_ret; exact ⟨ret_i64 HF.out.symm, box2_below HB3.out⟩)
                  · skip
                    have HF := Aside0.mk (show wrongE ⟨cname, params, regs, cells, l⟩ i ⟨9, op, d, a, b, cc, n, name, args⟩ = 17 by rw [HW2.out]; simp only [bad16, bad17, bad18, decide_eq_true_eq]; rw [if_neg (by omega), if_pos (by first | omega | (refine ⟨by simp, ?_⟩; omega))])
                    go_wp2
                    all_goals (go_ret; exact ⟨ret_i64 HF.out.symm, box2_below HB3.out⟩)
                · rcases k8 with rfl | rfl
                  · skip
                    by_cases hil : (i : Int) = (l.length : Int) - 1
                    · exfalso; omega
                    · have hib : ((i : Int) == (l.length : Int) - 1) = false := beq_eq_false_iff_ne.2 hil
                      have HF := Aside0.mk (show wrongE ⟨cname, params, regs, cells, l⟩ i ⟨8, op, d, a, b, cc, n, name, args⟩ = 0 by rw [HW2.out]; simp only [bad16, bad17, bad18, decide_eq_true_eq]; rw [if_neg (by omega), if_neg (by omega), if_neg (by omega)])
                      go_wp2
                      all_goals (go_ret; exact ⟨ret_i64 HF.out.symm, box2_below HB3.out⟩)
                  · skip
                    by_cases hil : (i : Int) = (l.length : Int) - 1
                    · exfalso; omega
                    · have hib : ((i : Int) == (l.length : Int) - 1) = false := beq_eq_false_iff_ne.2 hil
                      have HF := Aside0.mk (show wrongE ⟨cname, params, regs, cells, l⟩ i ⟨9, op, d, a, b, cc, n, name, args⟩ = 0 by rw [HW2.out]; simp only [bad16, bad17, bad18, decide_eq_true_eq]; rw [if_neg (by omega), if_neg (by omega), if_neg (by omega)])
                      go_wp2
                      all_goals (go_ret; exact ⟨ret_i64 HF.out.symm, box2_below HB3.out⟩)
            have e8 : (kind == 8) = false := beq_eq_false_iff_ne.2 (by omega)
            have e9 : (kind == 9) = false := beq_eq_false_iff_ne.2 (by omega)
            by_cases k10 : kind = 10
            · clear e5 e6 e8 e9 k5 k8
              subst k10
              by_cases hil : (i : Int) = (l.length : Int) - 1
              · have hib : ((i : Int) == (l.length : Int) - 1) = true := beq_iff_eq.2 hil
                have HF := Aside0.mk (show wrongE ⟨cname, params, regs, cells, l⟩ i ⟨10, op, d, a, b, cc, n, name, args⟩ = 0 by rw [HW2.out]; simp only [bad16, bad17, bad18, decide_eq_true_eq]; rw [if_neg (by omega), if_neg (by omega), if_neg (by omega)])
                go_wp2
                all_goals (go_ret; exact ⟨ret_i64 HF.out.symm, box2_below HB3.out⟩)
              · have hib : ((i : Int) == (l.length : Int) - 1) = false := beq_eq_false_iff_ne.2 hil
                have HF := Aside0.mk (show wrongE ⟨cname, params, regs, cells, l⟩ i ⟨10, op, d, a, b, cc, n, name, args⟩ = 0 by rw [HW2.out]; simp only [bad16, bad17, bad18, decide_eq_true_eq]; rw [if_neg (by omega), if_neg (by omega), if_neg (by omega)])
                go_wp2
                all_goals (go_ret; exact ⟨ret_i64 HF.out.symm, box2_below HB3.out⟩)
            have e10 : (kind == 10) = false := beq_eq_false_iff_ne.2 k10
            have e10b : (kind != 10) = true := bne_iff_ne.2 k10
            by_cases hil : (i : Int) = (l.length : Int) - 1
            · have hib : ((i : Int) == (l.length : Int) - 1) = true := beq_iff_eq.2 hil
              have HF := Aside0.mk (show wrongE ⟨cname, params, regs, cells, l⟩ i ⟨kind, op, d, a, b, cc, n, name, args⟩ = 18 by rw [HW2.out]; simp only [bad16, bad17, bad18, decide_eq_true_eq]; rw [if_neg (by omega), if_neg (by omega), if_pos (by first | omega | (refine ⟨by simp, ?_⟩; omega))])
              go_wp2
              all_goals (go_ret; exact ⟨ret_i64 HF.out.symm, box2_below HB3.out⟩)
            · have hib : ((i : Int) == (l.length : Int) - 1) = false := beq_eq_false_iff_ne.2 hil
              have HF := Aside0.mk (show wrongE ⟨cname, params, regs, cells, l⟩ i ⟨kind, op, d, a, b, cc, n, name, args⟩ = 0 by rw [HW2.out]; simp only [bad16, bad17, bad18, decide_eq_true_eq]; rw [if_neg (by omega), if_neg (by omega), if_neg (by omega)])
              go_wp2
              all_goals (go_ret; exact ⟨ret_i64 HF.out.symm, box2_below HB3.out⟩)
end Go.Proofs.Ytlkkdpmloeipjaa
