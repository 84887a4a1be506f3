/- carlingref11.Spans. -/
import Derived.Test.YtlkkdpmloeipjaaC3
import Derived.Test.YtlkkdpmloeipjaaC2
import Derived.Test.YtlkkdpmloeipjaaS2
import Derived.OwnWalk
namespace Go.Proofs.Ytlkkdpmloeipjaa
open Go.RowKit Go.Proofs.YtlkkdpmloeipjaaW.PrintWords
set_option linter.unusedVariables false

theorem size_set (w : World) (p : Addr) (v : Value) : (w.setCell p v).heap.size = w.heap.size := by
  show (w.heap.modify _ _).size = _
  rw [Array.size_modify]
theorem blk_new_set (w : World) (p : Addr) (v : Value) (o : Go.Obj) : ((w.setCell p v).alloc o).heap[w.heap.size]? = some o := by
  have := blk_new (w.setCell p v) o
  rwa [size_set] at this
theorem back_step {c : Code} {r i : Nat} {x : Ir} (hx : c.l[i]? = some x) : backTo c r (c.l.length - i) = if touchB x r = true then ⟨(i : Int), max (backTo c r (c.l.length - (i + 1))).hi (i : Int)⟩ else backTo c r (c.l.length - (i + 1)) := by
  have hi := (List.getElem?_eq_some_iff.1 hx).1
  obtain ⟨j, hj⟩ : ∃ j, c.l.length - i = j + 1 := ⟨c.l.length - i - 1, by omega⟩
  rw [hj, show c.l.length - (i + 1) = j by omega]
  have e : c.l.length - (j + 1) = i := by omega
  conv => lhs; unfold backTo
  rw [e, touchAt_some hx]

set_option maxHeartbeats 4000000 in
set_option maxRecDepth 100000 in
theorem rspans_bad (c : Code) (A1 : Option Addr) (c1 : Nat) (A4 : Option Addr) (c4 : Nat) (w : World) (hok : CodeOk c) (hat : CodeAt w c A1 c1 A4 c4) (hb : ¬ (rightE c).1 = 0) :
    Calls Try.prog 25 #[codeV c A1 c1 A4 c4] w (RetSp w (rspansE c)) := by
  have HE := Aside0.mk (show rspansE c = [] from if_neg hb)
  have HR := Aside0.mk (fun W (hb : Below w.heap.size w W) => rright_any c A1 c1 A4 c4 W hok (hat.below hb))
  have hbb : ((rightE c).1 != 0) = true := bne_iff_ne.2 hb
  clear hok hat hb
  have hu2 := Try.underlying25
  obtain ⟨name, params, regs, cells, l⟩ := c
  simp only [codeV] at *
  generalize rightE ⟨name, params, regs, cells, l⟩ = e at *
  obtain ⟨e1, e2⟩ := e
  simp only at hbb
  go_enter Try.func25, Try.ntmps25
  go_wp2_with (go_at_call 27; (with_reducible refine (HR.out _ (below_alloc (Below.refl _ _) _)).mono ?_); rintro e w1 ⟨rfl, hB1⟩; have HB1 := Aside0.mk hB1; clear hB1)
  go_ret
  rw [HE.out]
  exact ⟨none, 0, rfl, Nat.le_refl _, Kd.C_nil _ _, below_step (below_alloc (Below.refl _ _) _) HB1.out⟩

set_option maxHeartbeats 16000000 in
set_option maxRecDepth 100000 in
theorem rspans_ok (c : Code) (A1 : Option Addr) (c1 : Nat) (A4 : Option Addr) (c4 : Nat) (w : World) (hok : CodeOk c) (hat : CodeAt w c A1 c1 A4 c4) (hb : (rightE c).1 = 0) :
    Calls Try.prog 25 #[codeV c A1 c1 A4 c4] w (RetSp w (rspansE c)) := by
  have HE := Aside0.mk (show rspansE c = (List.range c.regs.toNat).map (refSp c) from if_pos hb)
  have HR := Aside0.mk (fun W (hb : Below w.heap.size w W) => rright_any c A1 c1 A4 c4 W hok (hat.below hb))
  have HO := Aside0.mk hok
  have HT := Aside0.mk hat
  obtain ⟨hf, hwr⟩ := right_facts hb
  have hfc := formB_cells hf
  have HLe := Aside0.mk hfc.2.2.2.2.1
  have hl3 := hok.len
  have hw0 := hfc.2.2.1
  have hr1 := hfc.2.2.2.1
  have hwle := wordsN_le c.params
  obtain ⟨n, hn⟩ : ∃ n : Nat, c.regs = n := ⟨c.regs.toNat, by omega⟩
  have hbb : ((rightE c).1 != 0) = false := bne_eq_false_iff_eq.2 hb
  have HBk := Aside0.mk (fun (r i : Nat) (x : Ir) => back_step (c := c) (r := r) (i := i) (x := x))
  have HRf := Aside0.mk (fun r => show refSp c r = if r < wordsN c.params then ⟨-1, (backTo c r c.l.length).hi⟩ else backTo c r c.l.length from rfl)
  have HBz := Aside0.mk (fun r => show backTo c r (c.l.length - c.l.length) = ⟨-1, -1⟩ by rw [Nat.sub_self]; rfl)
  clear hok hat hb hf hwr hfc
  have hu2 := Try.underlying25
  have hu3 := Try.underlying33
  have hu4 := Try.underlying26
  obtain ⟨name, params, regs, cells, l⟩ := c
  simp only [codeV] at *
  subst hn
  simp only [Int.toNat_natCast] at HE
  generalize rightE ⟨name, params, (n : Int), cells, l⟩ = e at *
  generalize rspansE ⟨name, params, (n : Int), cells, l⟩ = RE at *
  generalize hBT : backTo ⟨name, params, (n : Int), cells, l⟩ = BT at *
  generalize hRS : refSp ⟨name, params, (n : Int), cells, l⟩ = RS at *
  clear hBT hRS
  obtain ⟨e1, e2⟩ := e
  simp only at hbb
  generalize hWn : wordsN params = wn at *
  generalize hCn : cellsN params = cn at *
  have HWn := Aside0.mk hWn
  have HCn := Aside0.mk hCn
  clear hWn hCn
  go_enter Try.func25, Try.ntmps25
  go_wp2_with (first
    | (go_at_call 27; (with_reducible refine (HR.out _ (below_alloc (Below.refl _ _) _)).mono ?_); rintro e w1 ⟨rfl, hB1⟩; have HB1 := Aside0.mk (show Below (w.heap.size + 1) _ w1 from by simpa using hB1); clear hB1; obtain ⟨g0, g1, g2, g3, g4⟩ := code_box1 (c := ⟨name, params, (n : Int), cells, l⟩) HB1.out; simp only at g0 g1 g2 g3 g4)
    | (go_at_call 48; (with_reducible refine (words_any params A1 c1 _ HLe.out (Kd.C_below HT.out.params (below_of_box HB1.out))).mono ?_); rw [HWn.out, HCn.out]; rintro e w2 ⟨rfl, hb2⟩; have HB2 := Aside0.mk (box_step HB1.out hb2); clear hb2 g0 g1 g2 g3 g4))
  go_loopw [7, 8] (fun v7 v8 wr => ∃ r : Nat, r ≤ n ∧ v8 = .int .i64 r ∧ Aside0 (OwnSp wr w2.heap.size v7 ((List.range r).map RS)) ∧ Aside0 (Below w2.heap.size w2 wr)) (fun _ v8 _ => n - (intOf v8).toNat)
  case atStart => exact ⟨0, Nat.zero_le _, rfl, ⟨Kd.R_nil _ _ _ _ _⟩, ⟨Below.refl _ _⟩⟩
  case round =>
    obtain ⟨r, hr, rfl, HV, HB⟩ := hrel
    obtain ⟨g0, g1, g2, g3, g4⟩ := code_box1 (c := ⟨name, params, (n : Int), cells, l⟩) (box_step HB2.out HB.out)
    simp only at g0 g1 g2 g3 g4
    by_cases hlt : r < n
    · generalize wr = wa at *
      have L4 : ∀ o, (wa.alloc o).cell? ⟨w.heap.size, 4, none⟩ = some (.slice A4 l.length c4) := fun o => pw_cell_below (below_alloc (Below.refl _ _) o) g4
      go_wp2
      have HI0 := Aside0.mk (show (wa.alloc (.cells #[.int .i64 (-1), .int .i64 (-1)] 26)).heap[wa.heap.size]? = some (.cells #[.int .i64 (BT r (l.length - l.length)).lo, .int .i64 (BT r (l.length - l.length)).hi] 26 (0, 0)) from by rw [HBz.out r]; exact blk_new _ _)
      have HZ := Aside0.mk HB.out.size
      clear L4
      go_loopw [10] (fun v10 wr => ∃ i : Nat, i ≤ l.length ∧ v10 = .int .i64 ((i : Int) - 1) ∧ Aside0 (wr.heap[wa.heap.size]? = some (.cells #[.int .i64 (BT r (l.length - i)).lo, .int .i64 (BT r (l.length - i)).hi] 26 (0, 0))) ∧ Aside0 (Below wa.heap.size wa wr)) (fun v10 _ => (intOf v10 + 1).toNat)
      case atStart => exact ⟨l.length, Nat.le_refl _, rfl, HI0, ⟨below_alloc (Below.refl _ _) _⟩⟩
      case round =>
        clear g0 g1 g2 g3 g4
        obtain ⟨i, hi, rfl, HI, HBi⟩ := hrel
        have HBw := Aside0.mk (below_step HB.out HBi.out)
        obtain ⟨g0, g1, g2, g3, g4⟩ := code_box1 (c := ⟨name, params, (n : Int), cells, l⟩) (box_step HB2.out HBw.out)
        simp only at g0 g1 g2 g3 g4
        rcases Nat.eq_zero_or_pos i with rfl | hpos
        · generalize wr = wb at *
          have HRr0 := HRf.out r
          have hI := HI.out
          rw [Nat.sub_zero] at hI
          clear HI
          generalize BT r l.length = s at *
          obtain ⟨lo, hi⟩ := s
          simp only at hI HRr0
          have q0 : wb.cell? ⟨wa.heap.size, 0, none⟩ = some (.int .i64 lo) := blk_cell hI 0
          have q1 : wb.cell? ⟨wa.heap.size, 1, none⟩ = some (.int .i64 hi) := blk_cell hI 1
          have f0 := blk_frozen hI 0
          clear hI
          by_cases hrw : r < wn
          · rw [if_pos hrw] at HRr0
            have HRr := Aside0.mk HRr0
            clear HRr0
            go_wp2_with (at_builtin; refine sp_app w2.heap.size rfl (.tmp 57) (.tmp 59) rfl u7 (List.map RS (List.range r)) [⟨-1, hi⟩] _ 1 rfl rfl (Kd.R_below HV.out (below_alloc (below_set HBi.out (Nat.le_refl _)) _)) (C_sp1 (blk_new_set _ _ _ _)) (w0 := w2) (below_step HB.out (below_alloc (below_set HBi.out (Nat.le_refl _)) _)) (below_step HB.out (below_alloc (below_set HBi.out (Nat.le_refl _)) _)).size (by simp; omega) ?_; intro v8 w8 hR8 hb8 _; have HR8 := Aside0.mk hR8; have HB8 := Aside0.mk hb8; clear hR8 hb8)
            go_roundw
            case rel => exact ⟨r + 1, by omega, by go_num, ⟨by rw [List.range_succ, List.map_append, List.map_cons, List.map_nil, HRr.out]; exact HR8.out⟩, HB8⟩
            case measure => simp [intOf]; omega
          · rw [if_neg hrw] at HRr0
            have HRr := Aside0.mk HRr0
            clear HRr0
            go_wp2_with (at_builtin; refine sp_app w2.heap.size rfl (.tmp 57) (.tmp 59) rfl u7 (List.map RS (List.range r)) [⟨lo, hi⟩] _ 1 rfl rfl (Kd.R_below HV.out (below_alloc HBi.out _)) (C_sp1 (blk_new _ _)) (w0 := w2) (below_step HB.out (below_alloc HBi.out _)) (below_step HB.out (below_alloc HBi.out _)).size (by simp; omega) ?_; intro v8 w8 hR8 hb8 _; have HR8 := Aside0.mk hR8; have HB8 := Aside0.mk hb8; clear hR8 hb8)
            go_roundw
            case rel => exact ⟨r + 1, by omega, by go_num, ⟨by rw [List.range_succ, List.map_append, List.map_cons, List.map_nil, HRr.out]; exact HR8.out⟩, HB8⟩
            case measure => simp [intOf]; omega
        · obtain ⟨i, rfl⟩ : ∃ j, i = j + 1 := ⟨i - 1, by omega⟩
          have hii : (((i + 1 : Nat) : Int) - 1) = (i : Int) := by omega
          rw [hii]
          obtain ⟨x, ad, A8, c8, rfl, hx, h0, h1, h2, h3, h4, h5, h6, h7, h8, hc8, hC8⟩ := nt_Ir HT.out.l (below_step (below_of_box HB2.out) HBw.out) i (by show i < l.length; omega)
          have HTo := Aside0.mk (touches_any x A8 c8 r wr hC8 hc8 (HO.out.args x (at_mem hx)))
          have HN := Aside0.mk (HBk.out r i x hx)
          clear hx hC8 hc8
          generalize BT r (l.length - (i + 1)) = s at *
          obtain ⟨kind, op, d, a, b, cc, nn, nm, args⟩ := x
          simp only [irV] at h0 h1 h2 h3 h4 h5 h6 h7 h8 HTo
          generalize touchB ⟨kind, op, d, a, b, cc, nn, nm, args⟩ r = tb at *
          obtain ⟨lo, hi⟩ := s
          cases tb
          · simp only [Bool.false_eq_true, if_false] at HN
            go_wp2_with (go_at_call 49; (with_reducible refine HTo.out.mono ?_); rintro e w5 ⟨rfl, hB5⟩; have HB5 := Aside0.mk hB5; clear hB5)
            go_roundw
            case rel => exact ⟨i, by omega, by go_num, ⟨by rw [HN.out]; exact (HB5.out.block _ (blk_lt HI.out)).trans HI.out⟩, ⟨below_step HBi.out HB5.out⟩⟩
            case measure => simp [intOf] <;> omega
          · simp only [if_true] at HN
            go_wp2_with (go_at_call 49; (with_reducible refine HTo.out.mono ?_); rintro e w5 ⟨rfl, hB5⟩; have hI5 := (hB5.block _ (blk_lt HI.out)).trans HI.out; have HI5 := Aside0.mk hI5; have q0 : w5.cell? ⟨wa.heap.size, 0, none⟩ = some (.int .i64 lo) := blk_cell hI5 0; have q1 : w5.cell? ⟨wa.heap.size, 1, none⟩ = some (.int .i64 hi) := blk_cell hI5 1; have f0 := blk_frozen hI5 0; have f1 := blk_frozen hI5 1; have HB5 := Aside0.mk (below_step HBi.out hB5); clear hB5 hI5)
            go_roundw
            case rel => exact ⟨i, by omega, by go_num, ⟨by rw [HN.out]; exact blk_put (blk_put HI5.out 0 _ rfl) 1 _ rfl⟩, ⟨below_set (below_set HB5.out (Nat.le_refl _)) (Nat.le_refl _)⟩⟩
            case measure => simp [intOf] <;> omega
    · obtain rfl : n = r := by omega
      obtain ⟨A, cA, rfl, hcA, hC⟩ := Kd.R_reads HV.out
      have HC := Aside0.mk hC
      have hcA2 : n ≤ cA := by simpa using hcA
      clear hC hcA
      go_wp2
      go_ret
      rw [HE.out]
      exact ⟨A, cA, by simp, by simpa using hcA2, HC.out, below_step (below_of_box HB2.out) HB.out⟩
theorem rspans_any (c : Code) (A1 : Option Addr) (c1 : Nat) (A4 : Option Addr) (c4 : Nat) (w : World) (hok : CodeOk c) (hat : CodeAt w c A1 c1 A4 c4) :
    Calls Try.prog 25 #[codeV c A1 c1 A4 c4] w (RetSp w (rspansE c)) := by
  by_cases hb : (rightE c).1 = 0
  · exact rspans_ok c A1 c1 A4 c4 w hok hat hb
  · exact rspans_bad c A1 c1 A4 c4 w hok hat hb
end Go.Proofs.Ytlkkdpmloeipjaa
