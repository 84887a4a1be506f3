/- carlingref07.Right. -/
import Derived.Test.YtlkkdpmloeipjaaC1
namespace Go.Proofs.Ytlkkdpmloeipjaa
open Go.RowKit Go.Proofs.YtlkkdpmloeipjaaW.PrintWords
set_option linter.unusedVariables false

theorem rwrong_any (c : Code) (A1 : Option Addr) (c1 : Nat) (A4 : Option Addr) (c4 : Nat) (i : Nat) (x : Ir) (w : World) (hx : c.l[i]? = some x) (hok : CodeOk c) (hf : formB c = true) (hr : Kd.C kIr w A4 c.l.length c.l) :
    Calls Try.prog 51 #[codeV c A1 c1 A4 c4, .int .i64 i] w fun e w' => e = .returned (.int .i64 (wrongE c i x)) ∧ Below w.heap.size w w' := by
  have hm := at_mem hx
  cases h14 : bad14 x with
  | true =>
    have : wrongE c i x = 14 := by unfold wrongE; rw [if_pos h14]
    rw [this]
    exact rwrong_14 c A1 c1 A4 c4 i x w hx (hok.names x hm) hr h14
  | false => exact rwrong_on c A1 c1 A4 c4 i x w hx (hok.names x hm) hok.len (hok.args x hm) (hok.n x hm) (formB_cells hf).1 hok.cells hr h14

set_option maxHeartbeats 8000000 in
set_option maxRecDepth 100000 in
theorem rright_any (c : Code) (A1 : Option Addr) (c1 : Nat) (A4 : Option Addr) (c4 : Nat) (w : World) (hok : CodeOk c) (hat : CodeAt w c A1 c1 A4 c4) :
    Calls Try.prog 27 #[codeV c A1 c1 A4 c4] w fun e w' => e = .returned (.tuple #[.int .i64 (rightE c).1, .int .i64 (rightE c).2]) ∧ Below w.heap.size w w' := by
  have HO := Aside0.mk hok
  have HT := Aside0.mk hat
  have hl3 := hok.len
  have hp20 := hok.params
  have hs : c.name.size ≤ 140737488351232 := by have := hok.name; omega
  have HB6 := Aside0.mk (fun h : formB c = false => (show rightE c = (6, -1) by rw [rightE, h]; rfl))
  have HB0 := Aside0.mk (fun h : formB c = true => (show rightE c = scan c c.l.length 0 by rw [rightE, if_pos h]))
  have HFm := Aside0.mk (show formB c = (namedB c.name && decide (c.params.length ≤ 6) && c.params.all lenOk && decide ((wordsN c.params : Int) ≤ c.regs ∧ c.regs ≤ 10000 ∧ cellsN c.params ≤ c.cells ∧ c.cells ≤ 4096 ∧ 1 ≤ c.l.length ∧ c.l.length ≤ 10000)) from rfl)
  have HWr := Aside0.mk (fun (hf : formB c = true) (k : Nat) (x : Ir) (hx : c.l[k]? = some x) (wr : World) (hb : Below w.heap.size w wr) => rwrong_any c A1 c1 A4 c4 k x wr hx HO.out hf (HT.out.below hb).l)
  clear hok hat
  obtain ⟨name, params, regs, cells, l⟩ := c
  simp only at hl3 hp20 hs
  have hu := Try.underlying78
  have hu2 := Try.underlying25
  cases hb : namedB name
  · have HR := Aside0.mk (HB6.out (by rw [HFm.out]; simp [hb]))
    simp only [codeV] at *
    go_enter Try.func27, Try.ntmps27
    go_wp2_with (go_at_call 50; (with_reducible refine (rnamed_any name _ hs).mono ?_); rintro e w' ⟨rfl, n, rfl⟩)
    go_ret2
    exact ⟨ret_int2 (by rw [HR.out]) (by rw [HR.out]), pw_below_drewN (below_alloc (Below.refl _ _) _) _⟩
  by_cases h6 : 6 < params.length
  · have HR := Aside0.mk (HB6.out (by rw [HFm.out]; simp; omega))
    simp only [codeV] at *
    go_enter Try.func27, Try.ntmps27
    go_wp2_with (go_at_call 50; (with_reducible refine (rnamed_any name _ hs).mono ?_); rintro e w' ⟨rfl, n, rfl⟩)
    go_ret2
    exact ⟨ret_int2 (by rw [HR.out]) (by rw [HR.out]), pw_below_drewN (below_alloc (Below.refl _ _) _) _⟩
  have h6' : params.length ≤ 6 := by omega
  have HFs := Aside0.mk (show formB ⟨name, params, regs, cells, l⟩ = (params.all lenOk && decide ((wordsN params : Int) ≤ regs ∧ regs ≤ 10000 ∧ cellsN params ≤ cells ∧ cells ≤ 4096 ∧ 1 ≤ l.length ∧ l.length ≤ 10000)) by rw [HFm.out]; simp [hb, h6'])
  clear HFm
  simp only [codeV] at *
  go_enter Try.func27, Try.ntmps27
  go_wp2_with (go_at_call 50; (with_reducible refine (rnamed_any name _ hs).mono ?_); rintro e w' ⟨rfl, n, rfl⟩)
  go_loopw [4] (fun v4 wr => ∃ k : Nat, k ≤ params.length ∧ v4 = .int .i64 k ∧ Aside0 ((params.take k).all lenOk = true) ∧ Aside0 (Below (w.heap.size + 1) (w.alloc (.cells #[.string name, .slice A1 params.length c1, .int .i64 regs, .int .i64 cells, .slice A4 l.length c4] 25)) wr)) (fun v4 _ => params.length - (intOf v4).toNat)
  case atStart => exact ⟨0, Nat.zero_le _, rfl, ⟨rfl⟩, ⟨pw_below_drewN (box_start _ _) _⟩⟩
  case round =>
    obtain ⟨k, hk, rfl, HA, HB⟩ := hrel
    obtain ⟨g0, g1, g2, g3, g4⟩ := code_box1 (c := ⟨name, params, regs, cells, l⟩) HB.out
    simp only at g0 g1 g2 g3 g4
    by_cases hlt : k < params.length
    · obtain ⟨t, ad, rfl, ht, h0, h1⟩ := nt_Ty HT.out.params (below_of_box HB.out) k hlt
      have HTt := Aside0.mk ht
      clear ht
      obtain ⟨s, len⟩ := t
      simp only at h0 h1
      by_cases ho : 0 ≤ len ∧ len ≤ 16
      · have HN := Aside0.mk (all_snoc (f := lenOk) HTt.out HA.out (by simp [lenOk, ho]))
        obtain ⟨ho1, ho2⟩ := ho
        go_wp2
        go_roundw
        case rel => exact ⟨k + 1, by omega, by go_num, HN, HB⟩
        case measure => simp [intOf]; omega
      · have HN := Aside0.mk (all_false (f := lenOk) HTt.out (by simp [lenOk]; omega))
        have HR := Aside0.mk (HB6.out (by rw [HFs.out, HN.out]; rfl))
        have hx : len < 0 ∨ 16 < len := by omega
        clear ho
        rcases hx with hx | hx
        · go_wp2
          go_ret2
          exact ⟨ret_int2 (by rw [HR.out]) (by rw [HR.out]), below_of_box HB.out⟩
        · have hx2 : ¬ len < 0 := by omega
          go_wp2
          go_ret2
          exact ⟨ret_int2 (by rw [HR.out]) (by rw [HR.out]), below_of_box HB.out⟩
    · obtain rfl : k = params.length := by omega
      have HTa := Aside0.mk (show params.all lenOk = true by have := HA.out; rwa [List.take_length] at this)
      have hlens : LensOk params := ⟨by omega, fun t ht => by have := List.all_eq_true.1 HTa.out t ht; simpa [lenOk] using this⟩
      have HL := Aside0.mk hlens
      have hcn := cellsN_bd params hlens.2
      have hwn := wordsN_le params
      have HRr := Aside0.mk (Kd.C_below HT.out.params (below_of_box HB.out))
      clear hlens
      generalize wr = wa at *
      by_cases hform : (wordsN params : Int) ≤ regs ∧ regs ≤ 10000 ∧ cellsN params ≤ cells ∧ cells ≤ 4096 ∧ 1 ≤ l.length ∧ l.length ≤ 10000
      · have hft : formB ⟨name, params, regs, cells, l⟩ = true := by rw [HFs.out, HTa.out, Bool.true_and]; exact decide_eq_true hform
        have HR := Aside0.mk (HB0.out hft)
        have HWt := Aside0.mk (HWr.out hft)
        clear hft
        obtain ⟨m1, m2, m3, m4, m5, m6⟩ := hform
        have m5b : ((l.length : Int) == 0) = false := beq_eq_false_iff_ne.2 (by omega)
        generalize hWn : wordsN params = wn at *
        generalize hCn : cellsN params = cn at *
        have HWn := Aside0.mk hWn
        have HCn := Aside0.mk hCn
        clear hWn hCn
        go_wp2_with (go_at_call 48; (with_reducible refine (words_any params A1 c1 _ HL.out HRr.out).mono ?_); rw [HWn.out, HCn.out]; rintro e w2 ⟨rfl, hb2⟩; have HB2 := Aside0.mk (box_step HB.out hb2); clear hb2 g0 g1 g2 g3 g4; obtain ⟨g0, g1, g2, g3, g4⟩ := code_box1 (c := ⟨name, params, regs, cells, l⟩) HB2.out; simp only at g0 g1 g2 g3 g4)
        go_loopw [7] (fun v7 wr => ∃ k : Nat, k ≤ l.length ∧ v7 = .int .i64 k ∧ Aside0 (scan ⟨name, params, regs, cells, l⟩ l.length 0 = scan ⟨name, params, regs, cells, l⟩ (l.length - k) k) ∧ Aside0 (Below (w.heap.size + 1) (w.alloc (.cells #[.string name, .slice A1 params.length c1, .int .i64 regs, .int .i64 cells, .slice A4 l.length c4] 25)) wr)) (fun v7 _ => l.length - (intOf v7).toNat)
        case atStart => exact ⟨0, Nat.zero_le _, rfl, ⟨rfl⟩, HB2⟩
        case round =>
          clear g0 g1 g2 g3 g4
          obtain ⟨k, hk, rfl, HA, HB⟩ := hrel
          obtain ⟨g0, g1, g2, g3, g4⟩ := code_box1 (c := ⟨name, params, regs, cells, l⟩) HB.out
          simp only at g0 g1 g2 g3 g4
          by_cases hlt : k < l.length
          · obtain ⟨x, hx⟩ : ∃ x, l[k]? = some x := ⟨_, List.getElem?_eq_getElem hlt⟩
            have HX := Aside0.mk hx
            clear hx
            have HC := Aside0.mk (HWt.out k x HX.out wr (below_of_box HB.out))
            by_cases he : wrongE ⟨name, params, regs, cells, l⟩ k x = 0
            · have HN := Aside0.mk (HA.out.trans (scan_ok HX.out he))
              rw [he] at HC
              clear he
              go_wp2_with (go_at_call 51; (with_reducible refine HC.out.mono ?_); rintro e w2 ⟨rfl, hB2⟩; have HB2 := Aside0.mk (box_step HB.out hB2); clear hB2)
              go_roundw
              case rel => exact ⟨k + 1, by omega, by go_num, HN, HB2⟩
              case measure => simp [intOf]; omega
            · have HN := Aside0.mk (HR.out.trans (HA.out.trans (scan_bad HX.out he)))
              have heb : (wrongE ⟨name, params, regs, cells, l⟩ k x != 0) = true := bne_iff_ne.2 he
              clear he
              generalize wrongE ⟨name, params, regs, cells, l⟩ k x = ev at *
              go_wp2_with (go_at_call 51; (with_reducible refine HC.out.mono ?_); rintro e w2 ⟨rfl, hB2⟩; have HB2 := Aside0.mk (box_step HB.out hB2); clear hB2)
              go_ret2
              exact ⟨ret_int2 (by rw [HN.out]) (by rw [HN.out]), below_of_box HB2.out⟩
          · obtain rfl : k = l.length := by omega
            have HN := Aside0.mk (show rightE ⟨name, params, regs, cells, l⟩ = (0, -1) by rw [HR.out, HA.out, Nat.sub_self]; rfl)
            go_wp2
            go_ret2
            exact ⟨ret_int2 (by rw [HN.out]) (by rw [HN.out]), below_of_box HB.out⟩
      · have HR := Aside0.mk (HB6.out (by rw [HFs.out, HTa.out, Bool.true_and]; exact decide_eq_false hform))
        have hcases : regs < (wordsN params : Int) ∨ (¬ regs < (wordsN params : Int) ∧ (10000 < regs ∨ (¬ 10000 < regs ∧ (cells < cellsN params ∨ (¬ cells < cellsN params ∧ (4096 < cells ∨ (¬ 4096 < cells ∧ l.length = 0))))))) := by omega
        clear hform
        rcases hcases with h | ⟨n1, h | ⟨n2, h | ⟨n3, h | ⟨n4, h⟩⟩⟩⟩
        all_goals
          generalize hWn : wordsN params = wn at *
          generalize hCn : cellsN params = cn at *
          have HWn := Aside0.mk hWn
          have HCn := Aside0.mk hCn
          clear hWn hCn
          (try have hz : ((l.length : Int) == 0) = true := beq_iff_eq.2 (by omega))
          go_wp2_with (go_at_call 48; (with_reducible refine (words_any params A1 c1 _ HL.out HRr.out).mono ?_); rw [HWn.out, HCn.out]; rintro e w2 ⟨rfl, hb2⟩; have HB2 := Aside0.mk (box_step HB.out hb2); clear hb2 g0 g1 g2 g3 g4; obtain ⟨g0, g1, g2, g3, g4⟩ := code_box1 (c := ⟨name, params, regs, cells, l⟩) HB2.out; simp only at g0 g1 g2 g3 g4)
          go_ret2
          exact ⟨ret_int2 (by rw [HR.out]) (by rw [HR.out]), below_of_box HB2.out⟩
end Go.Proofs.Ytlkkdpmloeipjaa
