/- place.Places: the walk. -/
import Derived.Test.YtlkkdpmloeipjaaE2
import Derived.Deep.RegionLaw
import Derived.Test.YtlkkdpmloeipjaaQ0
import Derived.Test.YtlkkdpmloeipjaaB2
namespace Go.Proofs.Ytlkkdpmloeipjaa
open Go.RowKit Go.Proofs.YtlkkdpmloeipjaaW.PrintWords Go.Maps
set_option linter.unusedVariables false

set_option maxHeartbeats 4000000 in
set_option maxRecDepth 100000 in
theorem places_bad (c : Code) (A1 : Option Addr) (c1 : Nat) (A4 : Option Addr) (c4 : Nat) (w : World) (hok : CodeOk c) (hat : CodeAt w c A1 c1 A4 c4) (hb : ¬ (rightE c).1 = 0) :
    Calls Try.prog 31 #[codeV c A1 c1 A4 c4] w (RetPl w [] 0 (rightE c).1) := by
  have HR := Aside0.mk (fun W (hb : Below w.heap.size w W) => right_any c A1 c1 A4 c4 W hok (hat.below hb))
  have hbb : ((rightE c).1 != 0) = true := bne_iff_ne.2 hb
  clear hok hat hb
  have hu2 := Try.underlying25
  obtain ⟨name, params, regs, cells, l⟩ := c
  simp only [codeV] at *
  generalize rightE ⟨name, params, regs, cells, l⟩ = e at *
  obtain ⟨e1, e2⟩ := e
  simp only at hbb ⊢
  go_enter Try.func31, Try.ntmps31
  go_wp2_with (go_at_call 22; (with_reducible refine (HR.out _ (below_alloc (Below.refl _ _) _)).mono ?_); rintro e w1 ⟨rfl, hB1⟩; have HB1 := Aside0.mk hB1; clear hB1)
  go_ret3
  exact ⟨none, 0, rfl, Nat.le_refl _, Kd.C_nil _ _, below_step (below_alloc (Below.refl _ _) _) HB1.out⟩

set_option maxHeartbeats 16000000 in
set_option maxRecDepth 100000 in
theorem places_ok (c : Code) (A1 : Option Addr) (c1 : Nat) (A4 : Option Addr) (c4 : Nat) (w : World) (hok : CodeOk c) (hat : CodeAt w c A1 c1 A4 c4) (hb : (rightE c).1 = 0) :
    Calls Try.prog 31 #[codeV c A1 c1 A4 c4] w (RetPl w (placesE c).1 (placesE c).2.1 (placesE c).2.2) := by
  have HO := Aside0.mk hok
  have HT := Aside0.mk hat
  have hl3 := hok.len
  have HR := Aside0.mk (fun W (hb : Below w.heap.size w W) => right_any c A1 c1 A4 c4 W HO.out (HT.out.below hb))
  have HS := Aside0.mk (fun W (hb' : Below w.heap.size w W) => spans_own c A1 c1 A4 c4 W HO.out (HT.out.below hb') hb)
  have hfc := formB_cells (right_facts hb).1
  have hr1 := hfc.2.2.2.1
  obtain ⟨n, hn⟩ : ∃ n : Nat, c.regs = n := ⟨c.regs.toNat, by have := hfc.2.2.1; omega⟩
  have HEl := Aside0.mk (show (spansE c).length = n by unfold spansE; rw [if_pos hb, spansTo_length]; omega)
  have HPe := Aside0.mk (show placesE c = ((plTo c (spansE c) n (c.l.length + 1)).out, (plTo c (spansE c) n (c.l.length + 1)).slots, 0) by unfold placesE; rw [if_pos hb, show c.regs.toNat = n by omega])
  have hbb : ((rightE c).1 != 0) = false := bne_eq_false_iff_eq.2 hb
  have HKC := Aside0.mk (fun s W (hb : Below w.heap.size w W) => calls_any c s A1 c1 A4 c4 W HO.out.len (HT.out.below hb).l)
  have HSb := Aside0.mk (fun r s (hs : (spansE c)[r]? = some s) => span_bounds hb hs)
  clear hok hat hb hfc
  have hu2 := Try.underlying25
  have hu4 := Try.underlying26
  rw [HPe.out]
  obtain ⟨name, params, regs, cells, l⟩ := c
  simp only at hn hr1 hl3
  subst hn
  simp only [codeV, spV] at *
  clear HPe
  generalize hPT : plTo ⟨name, params, (n : Int), cells, l⟩ = PT at *
  have HPT := Aside0.mk hPT
  clear hPT
  generalize spansE ⟨name, params, (n : Int), cells, l⟩ = E at *
  generalize rightE ⟨name, params, (n : Int), cells, l⟩ = re at *
  obtain ⟨e1, e2⟩ := re
  simp only at hbb
  have hmm := @run_makeMap Try.prog
  have hEl := HEl.out
  go_enter Try.func31, Try.ntmps31
  go_upto_region 6 with (first
    | (go_at_call 22; (with_reducible refine (HR.out _ (below_alloc (Below.refl _ _) _)).mono ?_); rintro e w1 ⟨rfl, hB1⟩; have HB1 := Aside0.mk (show Below (w.heap.size + 1) _ w1 from by simpa using hB1); clear hB1; obtain ⟨g0, g1, g2, g3, g4⟩ := code_box1 (c := ⟨name, params, (n : Int), cells, l⟩) HB1.out; (try simp only at g0 g1 g2 g3 g4))
    | (go_at_call 23; (with_reducible refine (HS.out w1 (below_of_box HB1.out)).mono ?_); rintro e w4 ⟨A3, c3, rfl, hc3, hC3, hB4, ho4⟩; have HB4 := Aside0.mk (box_step HB1.out hB4); have HC3 := Aside0.mk hC3; clear hB4 hC3 ho4 g0 g1 g2 g3 g4; obtain ⟨g0, g1, g2, g3, g4⟩ := code_box1 (c := ⟨name, params, (n : Int), cells, l⟩) HB4.out; (try simp only at g0 g1 g2 g3 g4))
    | (at_make; refine Kd.R_make (Kd.int .i64) (w0 := w4) w4.heap.size 3 rfl rfl 31 (.tmp 32) (.tmp 32) rfl (n : Int) rfl rfl Try.underlying31 (.int .i64 0) 8 infoI rfl (by decide) (by decide) 0 (ok := fun _ => True) (okp := fun _ => False) rfl (fun _ h => h.elim) trivial (by omega) (by simp; omega) (Below.refl _ _) (Nat.le_refl _) ?_; intro v5 w5 hR5 hb5 _ hv5; obtain ⟨g8, c8, rfl, hg8, hF8, hc8⟩ := IRow_of_R hR5 ⟨_, hv5.choose_spec.1⟩; have HF8 := Aside0.mk hF8; have HB5 := Aside0.mk hb5; have HG8 := Aside0.mk hg8; clear hR5 hv5 hF8 hb5 hg8))
  simp only [Int.toNat_natCast] at hc8 HF8
  have hc8' : n ≤ c8 := by simpa using hc8
  clear hc8
  have HB5' := Aside0.mk (show Below w4.heap.size w4 w5 from HB5.out)
  have HBx := Aside0.mk (fun W (h : Below w4.heap.size w4 W) => code_box1 (c := ⟨name, params, (n : Int), cells, l⟩) (box_step HB4.out h))
  clear g0 g1 g2 g3 g4
  go_wp2
  go_loopw [36] (fun v36 wr => ∃ k : Nat, k ≤ n ∧ v36 = .int .i64 k ∧ Aside0 (Below w4.heap.size w4 wr) ∧ Aside0 (IRow wr g8 (initI n k))) (fun v36 _ => n - (intOf v36).toNat)
  case atStart => exact ⟨0, Nat.zero_le _, rfl, HB5, ⟨by rw [initI_zero]; exact HF8.out⟩⟩
  case round =>
    obtain ⟨k, hk, rfl, HBk, HFk⟩ := hrel
    by_cases hlt : k < n
    · have p0 := HFk.out.cell k 0 (initI_at hlt)
      have f0 := HFk.out.frozen k
      have HN := Aside0.mk (show IRow (wr.setCell ⟨g8, k, none⟩ (.int .i64 3)) g8 (initI n (k + 1)) from by
        have h := HFk.out.set (r := k) (by rw [initI_length hk]; exact hlt) 3
        rwa [initI_set hlt] at h)
      go_wp2
      go_roundw
      case rel => exact ⟨k + 1, by omega, by go_num, ⟨below_set HBk.out HG8.out⟩, HN⟩
      case measure => simp [intOf]; omega
    · obtain rfl : n = k := by omega
      generalize wr = wa at *
      have HZ := Aside0.mk (show w4.heap.size ≤ wa.heap.size from HBk.out.size)
      have hFk := HFk.out
      rw [initI_end] at hFk
      have HB0 := Aside0.mk (show PlB w4 (wa.alloc (.map #[] 0)) g8 wa.heap.size 0 (List.replicate n 3) (begTo E 0) from
        ⟨below_alloc HBk.out _, HG8.out, hFk.lt, hFk.same ((below_alloc (Below.refl wa.heap.size wa) (.map #[] 0)).block g8 hFk.lt), HBk.out.size, by simp, _, World.ownsGroups_made _ _ _ _ _, fun k => by rw [begTo_zero]; exact .inl ⟨rfl, rfl⟩⟩)
      clear hFk HFk
      go_wp2
      go_loopw [46] (fun v46 wr => ∃ k : Nat, k ≤ n ∧ v46 = .int .i64 k ∧ Aside0 (PlB w4 wr g8 wa.heap.size k (List.replicate n 3) (begTo E k))) (fun v46 _ => n - (intOf v46).toNat)
      case atStart => exact ⟨0, Nat.zero_le _, rfl, HB0⟩
      case round =>
        obtain ⟨k, hk, rfl, HP⟩ := hrel
        by_cases hlt : k < n
        · have hBe := HP.out.below
          obtain ⟨s0, hs0⟩ : ∃ s, E[k]? = some s := ⟨_, List.getElem?_eq_getElem (by rw [HEl.out]; exact hlt)⟩
          obtain ⟨lo, hi⟩ := s0
          have HBb := Aside0.mk (below_alloc HP.out.below (.cells #[.int .i64 lo, .int .i64 hi] 26))
          obtain ⟨s1, ad3, rfl, hs1, c1', c2⟩ := nt_Sp HC3.out HP.out.below k (by rw [HEl.out]; exact hlt)
          obtain rfl : (⟨lo, hi⟩ : Sp) = s1 := by rw [hs0] at hs1; exact Option.some.inj hs1
          try simp only at c1' c2
          have Hs := Aside0.mk hs0
          have hbd := HSb.out k _ hs0
          simp only at hbd
          have hwl : (Lit.int .i64 lo).wf = true := wf_small (by omega) (by omega)
          clear hs0 hs1 hBe
          have HPb := Aside0.mk (show PlB w4 (wr.alloc (.cells #[.int .i64 lo, .int .i64 hi] 26)) g8 wa.heap.size k (List.replicate n 3) (begTo E k) from HP.out.grown (World.grownBy_alloc _ _ none))
          by_cases hlh : lo < hi
          · obtain ⟨D, hM0, hD0⟩ := HPb.out.gm
            have HM := Aside0.mk hM0
            have HD := Aside0.mk hD0
            clear hM0 hD0
            have hM1 : ((wr.alloc (.cells #[.int .i64 lo, .int .i64 hi] 26)).drew).ownsGroups Try.prog 3 (wa.heap.size + 1) 3 .i64 wa.heap.size k D := HM.out
            obtain ⟨v, zs, hrun, hat, hoi, hzl, hback⟩ := hM1.at (E := 31) law_int Try.underlying85 (by kernel_rfl) (by unfold maxLen; omega) (keyOf_int_mk Try.underlying3 hwl)
            have hM2 : (((wr.alloc (.cells #[.int .i64 lo, .int .i64 hi] 26)).alloc (.cells #[.int .i64 (k : Int)] 3)).drew).ownsGroups Try.prog 3 (wa.heap.size + 1) 3 .i64 wa.heap.size k D := HM.out.kept (grownBy_drew (World.grownBy_alloc _ _ none)) (by simp) (HM.out.rowsAbove (fun j hj => by cases hj))
            obtain ⟨v2, zs2, hrun2, hat2, hoi2, hzl2, hback2⟩ := hM2.at (E := 31) law_int Try.underlying85 (by kernel_rfl) (by unfold maxLen; omega) (keyOf_int_mk Try.underlying3 hwl)
            have hzs := Aside0.mk (HD.out.at hat hoi)
            have HLK := Aside0.mk hback
            have HOI := Aside0.mk hoi
            have hzs2 := Aside0.mk (HD.out.at hat2 hoi2)
            have HLK2 := Aside0.mk hback2
            have HM2 := Aside0.mk hM2
            have HOI2 := Aside0.mk hoi2
            clear hat hback hoi hM1 hat2 hback2 hoi2 hM2
            go_wp2
            go_region_law (first
              | (refine step_append1 rfl (.tmp 62) (.tmp 64) rfl (wa.heap.size + 1) v zs (k : Int) _ 1 rfl rfl (by first | exact HOI.out | exact HOI.out.alloc _) (by first | exact blk_drew (blk_new1 _ _ _) | exact blk_new1 _ _ _) (wf_small (by omega) (by omega)) (by omega) (by have := HPb.out.base; simp at this ⊢; omega) ?_; intro v' w5' h6 h3 h5; have h3' : ((wr.alloc (.cells #[.int .i64 lo, .int .i64 hi] 26)).drew).grownBy w5' v.ownBlock := (by first | exact (World.grownBy_alloc _ _ _).trans h3 | exact h3); have q0 : w5'.cell? ⟨wr.heap.size, 0, none⟩ = some (.int .i64 lo) := row_box HOI.out (blk_drew (blk_new _ _)) h3' 0; obtain ⟨w6, hup, h7, h8⟩ := HLK.out w5' v' _ h3' h6 (by simp; omega) (h5.imp id (fun h => ⟨_, h, by simp⟩)); have HPN := Aside0.mk (PlB.put HPb.out.drew Hs.out hlh HD.out hzs.out HM.out HOI.out h3' h6 h7 h8); clear h6 h3 h5 h7 h8)
              | (refine step_append1 rfl (.tmp 62) (.tmp 64) rfl (wa.heap.size + 1) v2 zs2 (k : Int) _ 1 rfl rfl (by exact HOI2.out) (by exact blk_drew (blk_new1 _ _ _)) (wf_small (by omega) (by omega)) (by omega) (by have := HPb.out.base; simp at this ⊢; omega) ?_; intro v' w5' h6 h3 h5; have q0 : w5'.cell? ⟨wr.heap.size, 0, none⟩ = some (.int .i64 lo) := row_box HOI2.out (blk_drew (blk_alloc (blk_new _ _) _)) h3 0; obtain ⟨w6, hup, h7, h8⟩ := HLK2.out w5' v' _ h3 h6 (by simp; omega) (h5.imp id (fun h => ⟨_, h, by simp⟩)); have HPN := Aside0.mk (PlB.put (HPb.out.grown (World.grownBy_alloc _ _ none)).drew Hs.out hlh HD.out hzs2.out HM2.out HOI2.out h3 h6 h7 h8); clear h6 h3 h5 h7 h8))
            all_goals
              go_wp2
              go_roundw
              case rel => exact ⟨k + 1, by omega, by go_num, HPN⟩
              case measure => simp [intOf]; omega
          · go_wp2
            go_roundw
            case rel =>
              refine ⟨k + 1, by omega, by go_num, ⟨?_⟩⟩
              rw [begTo_out Hs.out hlh]
              obtain ⟨h1, h2, h3, h4, h5, h6, D, h7, h8⟩ := HPb.out
              exact ⟨h1, h2, h3, h4, h5, h6, D, groups_mono h7 (Nat.le_succ _), h8⟩
            case measure => simp [intOf]; omega
        · obtain rfl : n = k := by omega
          generalize wr = wb at *
          have HG0 := Aside0.mk HP.out.busy
          have HI0 := Aside0.mk (IMap_made wb)
          have HP0 := Aside0.mk (show PT E n 0 = ⟨fun _ => none, List.replicate n 3, 0, 0⟩ by rw [← HPT.out]; rfl)
          have HPS := Aside0.mk (show ∀ j : Nat, PT E n (j + 1) = plAt ⟨name, params, (n : Int), cells, l⟩ E n ((j : Int) - 1) (PT E n j) by rw [← HPT.out]; exact fun _ => rfl)
          have HPK := Aside0.mk (show ∀ j : Nat, PlOk n (PT E n j) by rw [← HPT.out]; exact fun j => plTo_ok _ E n j)
          have HPC := Aside0.mk (show ∀ j : Nat, (PT E n j).cnt ≤ j * n by rw [← HPT.out]; exact fun j => plTo_cnt _ E n j)
          clear HPT
          generalize hPTE : PT E n = PE at *
          clear hPTE HP HBk HZ HB0
          go_wp2
          go_loopw [14, 15] (fun v14 v15 wr => ∃ j : Nat, j ≤ l.length + 1 ∧ v14 = .int .i64 (PE j).slots ∧ v15 = .int .i64 ((j : Int) - 1) ∧ Aside0 (PlG w4 wr g8 wa.heap.size wb.heap.size n (PE j).out (begTo E n)) ∧ Aside0 (IMap wr wb.heap.size (PE j).cnt (PE j).busy)) (fun _ v15 _ => l.length + 1 - (intOf v15 + 1).toNat)
          case atStart => exact ⟨0, Nat.zero_le _, by rw [HP0.out], rfl, ⟨by rw [HP0.out]; exact HG0.out⟩, ⟨by rw [HP0.out]; exact HI0.out⟩⟩
          case round =>
            clear HG0 HI0
            obtain ⟨j, hj, rfl, rfl, HG, HI⟩ := hrel
            obtain ⟨g0, g1, g2, g3, g4⟩ := HBx.out wr HG.out.below
            (try simp only at g0 g1 g2 g3 g4)
            by_cases hlt : j < l.length + 1
            · obtain ⟨D, hown, hH⟩ := HI.out
              have HH := Aside0.mk hH
              have HOw := Aside0.mk hown
              clear hown hH
              generalize wr = wx at *
              have hjl : ((j : Int) - 1 < (l.length : Int)) := by omega
              go_wp2_with (at_range; refine wpList_range_own _ rfl _ 86 rfl 3 3 law_int Try.underlying86 _ wb.heap.size _ D rfl HOw.out ?_; intro w0 hrg0 hg0 hs0)
              have HR0 := Aside0.mk hrg0
              have HW0 := Aside0.mk hg0
              clear hrg0 hg0
              go_frame
              go_loopw [16, 17] (fun _ _ wr => ∃ (left : Lit → Bool) (cnt : Nat) (D' : DataW Unit), Aside0 (wr.ranges Try.prog 3 (plainElem Try.prog 3) wb.heap.size wx.heap.size (PE j).cnt D' left cnt) ∧ Aside0 (Holds D' (sweepF (PE j).busy ((j : Int) - 1) left)) ∧ Aside0 (wx.grownBy wr (some wb.heap.size))) (fun _ _ wr => wr.rangeLeft wb.heap.size wx.heap.size)
              case atStart => exact ⟨_, _, _, HR0, ⟨by rw [sweep_start HH.out]; exact HH.out⟩, ⟨HW0.out.but _⟩⟩
              case round =>
                obtain ⟨left, cnt, D', HRg, HHd, HGw⟩ := hrel
                clear g0 g1 g2 g3 g4
                go_wp2_with (at_next; refine wpList_next_ranges_ii _ rfl _ rfl 3 3 .i64 .i64 law_int Try.underlying3 Try.underlying3 wb.heap.size wx.heap.size _ _ _ _ rfl HRg.out ?_ ?_)
                · intro _ hl0
                  have HG1 := Aside0.mk (HG.out.kept HGw.out (.inr rfl))
                  have HI1 := Aside0.mk (show IMap wr wb.heap.size (PE j).cnt (dropF (PE j).busy ((j : Int) - 1)) from ⟨_, HRg.out.owns, by rw [← sweep_end hl0]; exact HHd.out⟩)
                  clear HRg HHd HGw HG HI HW0 HR0 HOw HH
                  generalize wr = wz at *
                  have hwj : (Lit.int .i64 ((j : Int) - 1)).wf = true := wf_small (by omega) (by omega)
                  obtain ⟨Dg, hDg, hDh⟩ := HG1.out.gm
                  have HDg := Aside0.mk hDg
                  have HDh := Aside0.mk hDh
                  clear hDg hDh
                  go_wp2_with (at_lookup; refine wpList_lookup_groups_shuns _ rfl _ _ 85 rfl 3 31 3 .i64 law_int Try.underlying85 (by kernel_rfl) (wa.heap.size + 1) wa.heap.size n Dg rfl HDg.out (by unfold maxLen; omega) _ _ rfl (keyOf_int_mk Try.underlying3 hwj) ?_; intro v zs hat hoi hzl hback hsh; obtain rfl := HDh.out.at hat hoi; have HNo := Aside0.mk (hsh _ HG1.out.sh); obtain ⟨A, cA, rfl, hCA⟩ := ints_reads hoi; have HOI := Aside0.mk hoi; clear hat hzl hback hsh hoi hCA; go_frame)
                  have hcnt : (PE j).cnt ≤ 30010000 := Nat.le_trans (HPC.out j) (Nat.le_trans (Nat.mul_le_mul (show j ≤ 3001 by omega) (show n ≤ 10000 by omega)) (by decide))
                  have HQ0 := Aside0.mk (plPart_zero ⟨name, params, (n : Int), cells, l⟩ E n ((j : Int) - 1) (PE j))
                  have HQS := Aside0.mk (fun i r h => plPart_succ (c := ⟨name, params, (n : Int), cells, l⟩) (S := E) (n := n) (at_ := (j : Int) - 1) (s := PE j) (j := i) (r := r) h)
                  have HQe := Aside0.mk ((plPart_end ⟨name, params, (n : Int), cells, l⟩ E n ((j : Int) - 1) (PE j)).trans (HPS.out j).symm)
                  have HQk := Aside0.mk (fun i => plPart_ok (c := ⟨name, params, (n : Int), cells, l⟩) (S := E) (at_ := (j : Int) - 1) (HPK.out j) i)
                  have HQc := Aside0.mk (fun i => Nat.le_trans (plPart_cnt (c := ⟨name, params, (n : Int), cells, l⟩) (S := E) (n := n) (at_ := (j : Int) - 1) (s := PE j) i) (show _ ≤ 30020000 by omega))
                  have HBt := Aside0.mk (fun i h => begTo_get (S := E) (n := n) (at_ := (j : Int) - 1) (j := i) h)
                  rw [← begTo_len] at HQe
                  have HBn := Aside0.mk (begTo_le E n ((j : Int) - 1))
                  generalize plPart ⟨name, params, (n : Int), cells, l⟩ E n ((j : Int) - 1) (PE j) = PP at *
                  generalize begTo E n ((j : Int) - 1) = B at *
                  have HG2 := Aside0.mk (show PlG w4 wz g8 wa.heap.size wb.heap.size n (PP 0).out (begTo E n) by rw [HQ0.out]; exact HG1.out)
                  have HI2 := Aside0.mk (show IMap wz wb.heap.size (PP 0).cnt (PP 0).busy by rw [HQ0.out]; exact HI1.out)
                  have hs0 : (PE j).slots = (PP 0).slots := by rw [HQ0.out]
                  have HB0 := Aside0.mk (Nat.zero_le B.length)
                  rw [hs0]
                  clear hs0 HG1 HI1 hcnt HDg HDh
                  go_loopw [14, 91] (fun v14 v91 wr => ∃ i : Nat, i ≤ B.length ∧ v91 = .int .i64 i ∧ v14 = .int .i64 (PP i).slots ∧ Aside0 (PlG w4 wr g8 wa.heap.size wb.heap.size n (PP i).out (begTo E n)) ∧ Aside0 (IMap wr wb.heap.size (PP i).cnt (PP i).busy) ∧ Aside0 (wr.ownsInts (wa.heap.size + 1) 3 .i64 (.slice A B.length cA) B)) (fun _ v91 _ => B.length - (intOf v91).toNat)
                  case atStart => exact ⟨0, Nat.zero_le _, rfl, rfl, HG2, HI2, HOI⟩
                  case round =>
                    clear HG2 HI2 HOI
                    obtain ⟨i, hi, rfl, rfl, HG, HI, HOI⟩ := hrel
                    by_cases hlt : i < B.length
                    · have HIL := Aside0.mk hlt
                      obtain ⟨r, hrL, hrB⟩ := HBt.out i hlt
                      have hrn := begL_lt hrL
                      obtain ⟨A', cA', eA, hCA⟩ := ints_reads HOI.out
                      injection eA with eA1 _ eA3
                      subst eA1 eA3
                      obtain ⟨adA, x, rfl, hx, hcx⟩ := nt_scalar hCA (Below.refl _ _) i hlt
                      obtain rfl : x = (r : Int) := by rw [hrB] at hx; exact (Option.some.inj hx).symm
                      have HrL := Aside0.mk hrL
                      clear hx hrB hCA hrL
                      obtain ⟨g0, g1, g2, g3, g4⟩ := HBx.out wr HG.out.below
                      (try simp only at g0 g1 g2 g3 g4)
                      obtain ⟨s0, hs0⟩ : ∃ s, E[r]? = some s := ⟨_, List.getElem?_eq_getElem (by rw [HEl.out]; exact hrn)⟩
                      obtain ⟨lo, hi'⟩ := s0
                      have hbd := HSb.out r _ hs0
                      simp only at hbd
                      have Hs := Aside0.mk hs0
                      have HrE := Aside0.mk (show E.getD r zSp = ⟨lo, hi'⟩ by simp [List.getD, hs0])
                      clear hs0
                      obtain ⟨ad3, rfl⟩ : ∃ ad, A3 = some ad := by obtain ⟨_, ad, h, _⟩ := nt_Sp HC3.out (Below.refl _ _) r (by rw [HEl.out]; exact hrn); exact ⟨ad, h⟩
                      have HSp := Aside0.mk (fun W (h : Below w4.heap.size w4 W) => (show W.cell? (ad3.add (r * 2)) = some (.int .i64 lo) ∧ W.cell? ⟨(ad3.add (r * 2)).block, (ad3.add (r * 2)).off + 1, none⟩ = some (.int .i64 hi') from by
                        obtain ⟨s1, ad, e, hs1, c1, c2⟩ := nt_Sp HC3.out h r (by rw [HEl.out]; exact hrn)
                        injection e with e
                        subst e
                        obtain rfl : (⟨lo, hi'⟩ : Sp) = s1 := by rw [Hs.out] at hs1; exact Option.some.inj hs1
                        exact ⟨c1, c2⟩))
                      go_upto_region 32 with (fail)
                      clear g0 g1 g2 g3 g4 hcx
                      refine wp_region_class (S := Below wr.heap.size wr) (by kernel_rfl) (by kernel_rfl) (below_drew1 (Below.refl _ _)) ?_
                      intro T f hTn hT0
                      have hT := Aside0.mk hT0
                      have hfb := fun q => below_step HG.out.below (class_mem hT0 q)
                      have f0 := fun q => (HBx.out _ (hfb q)).1
                      have f1 := fun q => (HBx.out _ (hfb q)).2.1
                      have f2 := fun q => (HBx.out _ (hfb q)).2.2.1
                      have f3 := fun q => (HBx.out _ (hfb q)).2.2.2.1
                      have f4 := fun q => (HBx.out _ (hfb q)).2.2.2.2
                      have f5 := fun q => (HSp.out _ (hfb q)).1
                      have f6 := fun q => (HSp.out _ (hfb q)).2
                      have HFb := Aside0.mk hfb
                      clear hT0 hfb
                      (try simp only at f0 f1 f2 f3 f4 f5 f6)
                      repeat (go_big_quiet_step (first
                        | (go_at_call 19; (with_reducible refine class_call hT.out (HKC.out ⟨lo, hi'⟩ _ ?_) ?_); exact (below_of_box (box_step HB4.out (HFb.out _))); exact (fun _ h => below_step (class_mem hT.out _) h))))
                      refine wpQuiet_nil ?_
                      intro w8 hw8
                      have HB8 := Aside0.mk ((hT.out _).2 hw8)
                      clear hw8 f0 f1 f2 f3 f4 f5 f6 hT HFb
                      have HG8 := Aside0.mk (HG.out.kept (below_grownBy HB8.out) (.inl rfl))
                      have HI8 := Aside0.mk (HI.out.kept (below_grownBy HB8.out) (by simp))
                      have HO8 := Aside0.mk (HOI.out.kept (below_grownBy HB8.out) (.inr (by simp [Value.ownBlock])))
                      clear HG HI HOI HB8
                      obtain ⟨p0, hp0⟩ : ∃ p0, p0 = baseP ⟨name, params, (n : Int), cells, l⟩ ⟨lo, hi'⟩ := ⟨_, rfl⟩
                      have hp38 : p0 = 3 ∨ p0 = 8 := by rw [hp0]; exact baseP_cases _ _
                      have hst : ∀ p, firstFree (PP i).busy (5 + (PP i).cnt) p0 = p → PP (i + 1) = ⟨updF (PP i).busy p (some hi'), (PP i).out.set r p, max (PP i).slots (p + 1 - 8), (PP i).cnt + 1⟩ := by
                        intro p hp
                        rw [HQS.out i r HrL.out]
                        unfold plOne
                        simp only [HrE.out, ← hp0, hp]
                      have HST := Aside0.mk hst
                      clear hst
                      have hpv : ∀ b, callsB ⟨name, params, (n : Int), cells, l⟩ ⟨lo, hi'⟩ = b → p0 = if b = true then 8 else 3 := by rintro b rfl; rw [hp0]; rfl
                      clear hp0
                      generalize callsB ⟨name, params, (n : Int), cells, l⟩ ⟨lo, hi'⟩ = cb at *
                      have hpv := hpv cb rfl
                      have hcnt := HQc.out i
                      cases cb
                      all_goals
                        (try simp only [Bool.false_eq_true, if_false, if_true] at hpv)
                        go_wp2
                        go_loopw [20] (fun v20 wr6 => ∃ (p : Int) (m : Nat), v20 = .int .i64 p ∧ Aside0 (p + m = p0 + 5 + (PP i).cnt) ∧ Aside0 (3 ≤ p) ∧ Aside0 (firstFree (PP i).busy m p = firstFree (PP i).busy (5 + (PP i).cnt) p0) ∧ Aside0 (Below w8.heap.size w8 wr6)) (fun v20 _ => (p0 + 5 + (PP i).cnt - intOf v20).toNat)
                        case atStart => exact ⟨p0, 5 + (PP i).cnt, by rw [hpv], ⟨by omega⟩, ⟨by omega⟩, ⟨rfl⟩, ⟨Below.refl _ _⟩⟩
                        case round =>
                          obtain ⟨p, m, rfl, HPm, HP3, HFF, HBr⟩ := hrel
                          have hpm := HPm.out
                          have hp3 := HP3.out
                          have hwp : (Lit.int .i64 p).wf = true := wf_mid (by omega) (by omega)
                          have HIr := Aside0.mk (HI8.out.kept (below_grownBy HBr.out) (by simp))
                          by_cases ht : ((PP i).busy p).isSome = true
                          · obtain ⟨m', rfl⟩ : ∃ m', m = m' + 1 := ⟨m - 1, by
                              have : m ≠ 0 := by
                                rintro rfl
                                rw [(HQk.out i).busy p (by omega)] at ht
                                cases ht
                              omega⟩
                            go_wp2_with (go_at_call 52; (with_reducible refine (taken_any _ _ _ p _ HIr.out hwp).mono ?_); rintro e w9 ⟨rfl, hB9⟩; have HB9 := Aside0.mk hB9; clear hB9; rw [ht])
                            go_roundw
                            case rel => exact ⟨p + 1, m', by go_num, ⟨by omega⟩, ⟨by omega⟩, ⟨by rw [← firstFree_taken ht]; exact HFF.out⟩, ⟨below_step HBr.out HB9.out⟩⟩
                            case measure => simp [intOf]; omega
                          · have hf : ((PP i).busy p).isSome = false := by simpa using ht
                            clear ht
                            have hS := HST.out p (by rw [← HFF.out]; exact firstFree_free hf m)
                            have HS1 := Aside0.mk hS
                            have hrl : r < (PP i).out.length := by rw [(HQk.out i).len]; exact hrn
                            have hwh : (Lit.int .i64 hi').wf = true := wf_small (by omega) (by omega)
                            clear hS HPm HP3 HFF
                            go_wp2_with (first
                              | (go_at_call 52; (with_reducible refine (taken_any _ _ _ p _ HIr.out hwp).mono ?_); rintro e w9 ⟨rfl, hB9⟩; rw [hf]; obtain ⟨Db, hDb, hDh⟩ := HIr.out.kept (below_grownBy hB9) (by simp); have HDb := Aside0.mk hDb; have HDh := Aside0.mk hDh; have HB9 := Aside0.mk (below_step HBr.out hB9); obtain ⟨q1, q2⟩ := HSp.out w9 (below_step HG8.out.below HB9.out); clear hB9 hDb hDh)
                              | (at_mapUpdate; refine wpList_mapUpdate_in _ rfl _ _ _ 86 rfl 3 3 law_int Try.underlying86 (plainElem Try.prog 3) wb.heap.size (PP i).cnt Db rfl HDb.out (by unfold maxLen; omega) _ _ _ rfl rfl (keyOf_int_mk Try.underlying3 hwp) _ [] (plainElem_int Try.underlying3 hwh) ?_; intro wA hownA hturn; have HIA := Aside0.mk (show IMap wA wb.heap.size ((PP i).cnt + 1) (updF (PP i).busy p (some hi')) from ⟨_, hownA, HDh.out.put (owns_isMap HDb.out) p hi'⟩); have HGA := Aside0.mk ((HG8.out.kept (below_grownBy HB9.out) (.inl rfl)).kept hturn.grown (.inr rfl)); have HOA := Aside0.mk ((HO8.out.kept (below_grownBy HB9.out) (.inr (by simp [Value.ownBlock]))).kept hturn.grown (.inr (fun e => HNo.out _ e rfl))); have z1 := HGA.out.row.cell r _ (List.getElem?_eq_getElem hrl); have z2 := HGA.out.row.frozen r; clear hownA hturn q1 q2; go_frame))
                            have hlt8 := HGA.out.lt8
                            have hil := HIL.out
                            have hbn := HBn.out
                            have hlt2 := HGA.out.lt2
                            go_roundw
                            case rel => exact ⟨i + 1, by omega, by rw [IntWalk.wrap64_in _ (by omega)]; rfl, by rw [HS1.out], ⟨by rw [HS1.out]; exact HGA.out.store hrl p⟩, ⟨by rw [HS1.out]; exact HIA.out.kept (grownBy_set _ _ _ _) (fun e => by injection e with e; omega)⟩, ⟨HOA.out.kept (grownBy_set _ _ _ _) (.inr (fun e => by have := (HOA.out.1.lt _ e).1; omega))⟩⟩
                            case measure => rw [IntWalk.wrap64_in _ (by omega)]; simp [intOf]; omega
                    · obtain rfl : B.length = i := by omega
                      go_wp2
                      go_roundw
                      case rel => exact ⟨j + 1, by omega, by rw [← HQe.out], by go_num, ⟨by rw [← HQe.out]; exact HG.out⟩, ⟨by rw [← HQe.out]; exact HI.out⟩⟩
                      case measure => simp [intOf]; omega
                · intro x c w1 cnt1 hwx hwc hlx hat hrg1 hlt1 hg1 hs1 hen
                  have HRn := Aside0.mk hrg1
                  have HGn := Aside0.mk (HGw.out.andThen hg1 (fun q hq => by cases hq; exact Or.inl (Nat.le_refl _)))
                  have hfx := sweep_at HHd.out hat hlx
                  have HFx := Aside0.mk hfx
                  clear hfx hg1 hrg1 hs1
                  by_cases hcl : c ≤ (j : Int) - 1
                  · go_wp2_with (at_delete; refine wpList_delete_ranges _ rfl _ _ 86 3 rfl 3 law_int Try.underlying86 _ wb.heap.size wx.heap.size _ _ _ _ rfl HRn.out _ _ rfl (keyOf_int_mk Try.underlying3 hwx) ?_; intro w2 cnt2 hrg2 hle hturn; have HRt := Aside0.mk hrg2; have HTn := Aside0.mk hturn; clear hrg2 hturn; go_frame)
                    go_roundw
                    case rel =>
                      exact ⟨_, cnt2, _, by have h := HRt.out; rw [strike_twice] at h; exact ⟨h⟩, ⟨by rw [sweep_struck HFx.out (by omega)]; exact HHd.out.del x⟩, ⟨HGn.out.andThen HTn.out.grown (fun q hq => by cases hq; exact Or.inr rfl)⟩⟩
                    case measure => rw [HRt.out.left_eq, HRg.out.left_eq]; omega
                  · go_wp2
                    go_roundw
                    case rel =>
                      exact ⟨_, cnt1, _, HRn, ⟨by rw [sweep_stays HFx.out (by omega)]; exact HHd.out⟩, HGn⟩
                    case measure => rw [HRn.out.left_eq, HRg.out.left_eq]; exact hlt1
            · obtain rfl : j = l.length + 1 := by omega
              go_wp2
              go_ret3
              have hl : (PE (l.length + 1)).out.length = n := (HPK.out _).len
              refine ⟨some ⟨g8, 0, none⟩, c8, by rw [hl]; rfl, by omega, ?_, ?_⟩
              · exact HG.out.row.C (by omega)
              · exact below_of_box (box_step HB4.out HG.out.below)
end Go.Proofs.Ytlkkdpmloeipjaa
