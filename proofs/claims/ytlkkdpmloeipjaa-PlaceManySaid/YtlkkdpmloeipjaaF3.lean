/- place.Check: the walk, where the code is right. -/
import Derived.Test.YtlkkdpmloeipjaaF2
namespace Go.Proofs.Ytlkkdpmloeipjaa
open Go.RowKit Go.Proofs.YtlkkdpmloeipjaaW.PrintWords Go.Maps
set_option linter.unusedVariables false

set_option maxHeartbeats 16000000 in
set_option maxRecDepth 100000 in
theorem check_ok (c : Code) (l : List Int) (slots : Int) (A1 : Option Addr) (c1 : Nat) (A4 : Option Addr) (c4 : Nat) (A : Option Addr) (cA : Nat) (w : World) (hok : CodeOk c) (hat : CodeAt w c A1 c1 A4 c4) (hl : Kd.C (Kd.int .i64) w A l.length l) (hp : ∀ p ∈ l, 0 ≤ p ∧ p ≤ 1000000) (hb : (rightE c).1 = 0) (hlr : (l.length : Int) = c.regs) (hs : 0 ≤ slots) :
    Calls Try.prog 32 #[codeV c A1 c1 A4 c4, .slice A l.length cA, .int .i64 slots] w fun e w' => e = .returned (.bool (chkTo c (spansE c) l slots l.length)) ∧ Below w.heap.size w w' := by
  have HO := Aside0.mk hok
  have HT := Aside0.mk hat
  have hl3 := hok.len
  have HLc := Aside0.mk hl
  have HPp := Aside0.mk hp
  have HR := Aside0.mk (fun W (hb : Below w.heap.size w W) => right_any c A1 c1 A4 c4 W HO.out (HT.out.below hb))
  have HS := Aside0.mk (fun W (hb' : Below w.heap.size w W) => spans_own c A1 c1 A4 c4 W HO.out (HT.out.below hb') hb)
  have hfc := formB_cells (right_facts hb).1
  have hr1 := hfc.2.2.2.1
  have hr0 := hfc.2.2.1
  have HEl := Aside0.mk (show (spansE c).length = l.length by unfold spansE; rw [if_pos hb, spansTo_length]; omega)
  have hbb : ((rightE c).1 != 0) = false := bne_eq_false_iff_eq.2 hb
  have hlb : ((l.length : Int) != c.regs) = false := bne_eq_false_iff_eq.2 hlr
  have HKC := Aside0.mk (fun s W (hb : Below w.heap.size w W) => calls_any c s A1 c1 A4 c4 W HO.out.len (HT.out.below hb).l)
  have HSb := Aside0.mk (fun r s (hs : (spansE c)[r]? = some s) => span_bounds hb hs)
  have HCf := Aside0.mk (fun r h n hn => chk_false (c := c) (E := spansE c) (l := l) (slots := slots) (r := r) h n hn)
  have HC1 := Aside0.mk (show ∀ r, chkTo c (spansE c) l slots (r + 1) = (chkTo c (spansE c) l slots r && okAt c slots (gAt (spansE c) l r) (l.getD r 0) ((spansE c).getD r zSp)) from fun _ => rfl)
  have HC0 := Aside0.mk (show chkTo c (spansE c) l slots 0 = true from rfl)
  have HCe := Aside0.mk (rfl : chkTo c (spansE c) l slots l.length = chkTo c (spansE c) l slots l.length)
  clear hok hat hb hl hp hfc
  have hu2 := Try.underlying25
  have hu4 := Try.underlying26
  have hll : l.length ≤ 10000 := by omega
  obtain ⟨name, params, regs, cells, L⟩ := c
  simp only at hlr hr1 hr0 hl3 hlb
  simp only [codeV, spV] at *
  generalize chkTo ⟨name, params, regs, cells, L⟩ (spansE ⟨name, params, regs, cells, L⟩) l slots = CT at *
  generalize spansE ⟨name, params, regs, cells, L⟩ = E at *
  generalize rightE ⟨name, params, regs, cells, L⟩ = re at *
  obtain ⟨e1, e2⟩ := re
  simp only at hbb
  generalize hres : CT l.length = res at *
  have Hres := Aside0.mk hres
  clear hres
  have hmm := @run_makeMap Try.prog
  have hEl := HEl.out
  go_enter Try.func32, Try.ntmps32
  go_upto_region 6 with (first
    | (go_at_call 22; (with_reducible refine (HR.out _ (below_alloc (Below.refl _ _) _)).mono ?_); rintro e w1 ⟨rfl, hB1⟩; have HB1 := Aside0.mk (show Below (w.heap.size + 1) _ w1 from by simpa using hB1); clear hB1; obtain ⟨g0, g1, g2, g3, g4⟩ := code_box1 (c := ⟨name, params, regs, cells, L⟩) HB1.out; (try simp only at g0 g1 g2 g3 g4))
    | (go_at_call 23; (with_reducible refine (HS.out w1 (below_of_box HB1.out)).mono ?_); rintro e w4 ⟨A3, c3, rfl, hc3, hC3, hB4, ho4⟩; have HB4 := Aside0.mk (box_step HB1.out hB4); have HC3 := Aside0.mk hC3; clear hB4 hC3 ho4 g0 g1 g2 g3 g4; obtain ⟨g0, g1, g2, g3, g4⟩ := code_box1 (c := ⟨name, params, regs, cells, L⟩) HB4.out; (try simp only at g0 g1 g2 g3 g4)))
  have HBx := Aside0.mk (fun W (h : Below w4.heap.size w4 W) => code_box1 (c := ⟨name, params, regs, cells, L⟩) (box_step HB4.out h))
  have HBw := Aside0.mk (fun W (h : Below w4.heap.size w4 W) => below_of_box (box_step HB4.out h))
  clear g0 g1 g2 g3 g4
  have HM0 := Aside0.mk (SMap_made w4)
  go_wp2
  go_loopw [38] (fun v38 wr => ∃ k : Nat, k ≤ l.length ∧ v38 = .int .i64 k ∧ Aside0 (Below w4.heap.size w4 wr) ∧ Aside0 (SMap wr (w4.heap.size + 1) w4.heap.size k (gAt E l k)) ∧ Aside0 (CT k = true) ∧ Aside0 (w4.heap.size + 1 ≤ wr.heap.size)) (fun v38 _ => l.length - (intOf v38).toNat)
  case atStart => exact ⟨0, Nat.zero_le _, rfl, ⟨below_alloc (Below.refl _ _) _⟩, HM0, HC0, ⟨by simp⟩⟩
  case round =>
    clear HM0
    obtain ⟨k, hk, rfl, HB, HM, HCk, HZ⟩ := hrel
    by_cases hlt : k < l.length
    · obtain ⟨adA, p, rfl, hp, hcp⟩ := nt_scalar HLc.out (HBw.out _ HB.out) k hlt
      have hpb := HPp.out p (List.mem_of_getElem? hp)
      have HpD := Aside0.mk (show l.getD k 0 = p by simp [List.getD, hp])
      obtain ⟨s0, hs0⟩ : ∃ s, E[k]? = some s := ⟨_, List.getElem?_eq_getElem (by rw [HEl.out]; exact hlt)⟩
      obtain ⟨lo, hi⟩ := s0
      have HsD := Aside0.mk (show E.getD k zSp = ⟨lo, hi⟩ by simp [List.getD, hs0])
      have Hs := Aside0.mk hs0
      clear hs0 hp
      obtain ⟨ad3, rfl⟩ : ∃ ad, A3 = some ad := by obtain ⟨_, ad, h, _⟩ := nt_Sp HC3.out (Below.refl _ _) k (by rw [HEl.out]; exact hlt); exact ⟨ad, h⟩
      have HSp := Aside0.mk (fun W (h : Below w4.heap.size w4 W) => (show W.cell? (ad3.add (k * 2)) = some (.int .i64 lo) ∧ W.cell? ⟨(ad3.add (k * 2)).block, (ad3.add (k * 2)).off + 1, none⟩ = some (.int .i64 hi) from by
        obtain ⟨s1, ad, e, hs1, c1, c2⟩ := nt_Sp HC3.out h k (by rw [HEl.out]; exact hlt)
        injection e with e
        subst e
        obtain rfl : (⟨lo, hi⟩ : Sp) = s1 := by rw [Hs.out] at hs1; exact Option.some.inj hs1
        exact ⟨c1, c2⟩))
      have HOk := Aside0.mk (show okAt ⟨name, params, regs, cells, L⟩ slots (gAt E l k) p ⟨lo, hi⟩ = (!(decide (p < 3) || decide (slots ≤ p - 8) || (callsB ⟨name, params, regs, cells, L⟩ ⟨lo, hi⟩ && decide (p < 8))) && (gAt E l k p).all (fun t => !meetB t ⟨lo, hi⟩)) from rfl)
      have HKs := Aside0.mk (fun W (h : Below w.heap.size w W) => HKC.out ⟨lo, hi⟩ W h)
      generalize callsB ⟨name, params, regs, cells, L⟩ ⟨lo, hi⟩ = cb at *
      go_upto_region 9 with (fail)
      go_cut [62] (fun v62 wc => v62 = .bool (decide (p < 3) || decide (slots ≤ p - 8) || (cb && decide (p < 8))) ∧ Aside0 (Below wr.heap.size wr wc))
      case first =>
        rcases (show p < 3 ∨ (¬ p < 3 ∧ slots ≤ p - 8) ∨ (¬ p < 3 ∧ ¬ slots ≤ p - 8 ∧ p < 8) ∨ (¬ p < 3 ∧ ¬ slots ≤ p - 8 ∧ ¬ p < 8) from by omega) with h1 | ⟨h1, h2⟩ | ⟨h1, h2, h3⟩ | ⟨h1, h2, h3⟩
        all_goals
          cases cb
          all_goals
            refine wp_region_class (S := Below wr.heap.size wr) (by kernel_rfl) (by kernel_rfl) (below_drew1 (Below.refl _ _)) ?_
            intro T f hTn hT0
            have hT := Aside0.mk hT0
            have hfb := fun q => below_step HB.out (class_mem hT0 q)
            have f0 := fun q => (HBx.out _ (hfb q)).1
            have f1 := fun q => (HBx.out _ (hfb q)).2.1
            have f2 := fun q => (HBx.out _ (hfb q)).2.2.1
            have f3 := fun q => (HBx.out _ (hfb q)).2.2.2.1
            have f4 := fun q => (HBx.out _ (hfb q)).2.2.2.2
            have f5 := fun q => (HSp.out _ (hfb q)).1
            have f6 := fun q => (HSp.out _ (hfb q)).2
            have HFb := Aside0.mk hfb
            clear hT0 hfb
            (try simp only at f0 f1 f2 f3 f4 f5 f6)
            repeat (go_big_quiet_step (first
              | (go_at_call 19; (with_reducible refine class_call hT.out (HKs.out _ ?_) ?_); exact (HBw.out _ (HFb.out _)); exact (fun _ h => below_step (class_mem hT.out _) h))))
            refine wpQuiet_nil ?_
            intro w8 hw8
            have HB8 := Aside0.mk ((hT.out _).2 hw8)
            clear hw8 f0 f1 f2 f3 f4 f5 f6 hT HFb
            go_wp2
            go_meet
            case rel => exact ⟨by simp [*], HB8⟩
      case rest =>
        obtain ⟨rfl, HBc⟩ := hcut
        generalize hbad : (decide (p < 3) || decide (slots ≤ p - 8) || (cb && decide (p < 8))) = bad at *
        have hcl : CT l.length = res := Hres.out
        cases hbd : bad
        · -- the place may be had; who is there?
          subst hbd
          have HMc := Aside0.mk (HM.out.grown (below_grownBy HBc.out))
          have HB4c := Aside0.mk (below_step HB.out HBc.out)
          have HZc := Aside0.mk (Nat.le_trans HZ.out HBc.out.size)
          have hpw : (Lit.int .i64 p).wf = true := wf_mid (by omega) (by omega)
          have hsd := HSb.out k _ Hs.out
          simp only at hsd
          obtain ⟨v, hrun, hrow, hback⟩ := HMc.out.look p hpw (by unfold maxLen; omega)
          obtain ⟨Av, cv, rfl, hCv⟩ := rowS_reads hrow
          have HCv := Aside0.mk hCv
          have hgl := gAt_len E l k p
          clear hrow hback hCv HM HB HZ HBc hcl
          have HG1 := Aside0.mk (show gAt E l (k + 1) = updS (gAt E l k) p (gAt E l k p ++ [⟨lo, hi⟩]) by show updS (gAt E l k) (l.getD k 0) (gAt E l k (l.getD k 0) ++ [E.getD k zSp]) = _; rw [HpD.out, HsD.out])
          generalize hGB : gAt E l k p = GB at *
          have HGB := Aside0.mk hGB
          clear hGB
          go_wp2
          go_loopw [67] (fun v67 wr => ∃ i : Nat, i ≤ GB.length ∧ v67 = .int .i64 i ∧ Aside0 (Below wc.heap.size wc wr) ∧ Aside0 (∀ (j : Nat) (t : Sp), j < i → GB[j]? = some t → meetB t ⟨lo, hi⟩ = false)) (fun v67 _ => GB.length - (intOf v67).toNat)
          case atStart => exact ⟨0, Nat.zero_le _, rfl, ⟨Below.refl _ _⟩, ⟨fun j t h => by omega⟩⟩
          case round =>
            clear hrun
            obtain ⟨i, hi', rfl, HBi, HNo⟩ := hrel
            by_cases hlt2 : i < GB.length
            · obtain ⟨t, adv, rfl, ht, q1, q2⟩ := nt_Sp HCv.out HBi.out i hlt2
              obtain ⟨t0, t1⟩ := t
              (try simp only at q1 q2)
              have Ht := Aside0.mk ht
              clear ht
              have HWr := Aside0.mk (below_alloc (below_step HB4c.out HBi.out) (.cells #[.int .i64 t0, .int .i64 t1] 26))
              go_upto_region 14 with (fail)
              clear q1 q2
              refine wp_region_class (S := Below (wr.alloc (.cells #[.int .i64 t0, .int .i64 t1] 26)).heap.size (wr.alloc (.cells #[.int .i64 t0, .int .i64 t1] 26))) (by kernel_rfl) (by kernel_rfl) (below_drew1 (Below.refl _ _)) ?_
              intro T f hTn hT0
              have hT := Aside0.mk hT0
              have hfb := fun q => below_step HWr.out (class_mem hT0 q)
              have f5 := fun q => (HSp.out _ (hfb q)).1
              have f6 := fun q => (HSp.out _ (hfb q)).2
              have f7 := fun q => (show (f q).cell? ⟨wr.heap.size, 0, none⟩ = some (.int .i64 t0) from blk_cell (((class_mem hT0 q).block _ (by simp)).trans (blk_new _ _)) 0)
              have f8 := fun q => (show (f q).cell? ⟨wr.heap.size, 1, none⟩ = some (.int .i64 t1) from blk_cell (((class_mem hT0 q).block _ (by simp)).trans (blk_new _ _)) 1)
              have HFb := Aside0.mk hfb
              clear hT0 hfb
              (try simp only at f5 f6)
              repeat (go_big_quiet_step (first
                | (go_at_call 20; (with_reducible refine class_call hT.out (meet_any ⟨t0, t1⟩ ⟨lo, hi⟩ _) ?_); exact (fun _ h => below_step (class_mem hT.out _) h))))
              refine wpQuiet_nil ?_
              intro w8 hw8
              have HB8 := Aside0.mk ((hT.out _).2 hw8)
              clear hw8 f5 f6 f7 f8 hT HFb
              cases hm : meetB ⟨t0, t1⟩ ⟨lo, hi⟩
              · go_wp2
                go_roundw
                case rel =>
                  refine ⟨i + 1, by omega, by go_num, ⟨below_step (below_alloc HBi.out _) HB8.out⟩, ⟨fun j t hj hjt => ?_⟩⟩
                  by_cases hji : j < i
                  · exact HNo.out j t hji hjt
                  · obtain rfl : j = i := by omega
                    obtain rfl : (⟨t0, t1⟩ : Sp) = t := by rw [Ht.out] at hjt; exact Option.some.inj hjt
                    exact hm
                case measure => simp [intOf]; omega
              · have hf : res = false := by
                  rw [← Hres.out]
                  refine HCf.out k ?_ _ hlt
                  rw [HpD.out, HsD.out, HOk.out]
                  have : GB.all (fun t => !meetB t ⟨lo, hi⟩) = false := List.all_eq_false.2 ⟨⟨t0, t1⟩, List.mem_of_getElem? Ht.out, by rw [hm]; decide⟩
                  rw [this]
                  rfl
                have HF := Aside0.mk hf
                clear hf
                go_wp2
                go_ret
                exact ⟨ret_bool HF.out.symm, HBw.out _ (below_step HWr.out HB8.out)⟩
            · obtain rfl : GB.length = i := by omega
              have HCn := Aside0.mk (show CT (k + 1) = true by
                rw [HC1.out k, HCk.out, HpD.out, HsD.out, HOk.out, Bool.true_and]
                have : GB.all (fun t => !meetB t ⟨lo, hi⟩) = true := List.all_eq_true.2 (fun t ht => by
                  obtain ⟨j, hj⟩ := List.getElem?_of_mem ht
                  rw [HNo.out j t (List.getElem?_eq_some_iff.1 hj).1 hj]
                  rfl)
                rw [this]
                rfl)
              have HBr := Aside0.mk (below_step HB4c.out HBi.out)
              obtain ⟨d1, d2⟩ := HSp.out _ (below_drew1 HBr.out)
              have HZr := Aside0.mk (Nat.le_trans HZc.out HBi.out.size)
              have hM1 : SMap wr.drew (w4.heap.size + 1) w4.heap.size k (gAt E l k) := (HMc.out.grown (below_grownBy HBi.out)).grown (grownBy_drew (World.grownBy.refl _ _))
              obtain ⟨v1, hrun1, hrow1, hback1⟩ := hM1.look p hpw (by unfold maxLen; omega)
              have hM2 : SMap (wr.alloc (.cells #[.int .i64 lo, .int .i64 hi] 26)).drew (w4.heap.size + 1) w4.heap.size k (gAt E l k) := (HMc.out.grown (below_grownBy HBi.out)).grown (grownBy_drew (World.grownBy_alloc _ _ _))
              obtain ⟨v2, hrun2, hrow2, hback2⟩ := hM2.look p hpw (by unfold maxLen; omega)
              rw [HGB.out] at hrow1 hrow2 hback1 hback2
              have R1 := Aside0.mk hrow1
              have K1 := Aside0.mk hback1
              have R2 := Aside0.mk hrow2
              have K2 := Aside0.mk hback2
              clear hrow1 hrow2 hback1 hback2 hM1 hM2
              go_wp2
              go_region_law (first
                | (refine step_appendS rfl (.tmp 82) (.tmp 87) rfl (w4.heap.size + 1) v1 GB ⟨lo, hi⟩ _ 1 rfl rfl (by first | exact R1.out | exact R1.out.alloc _) (by exact blk_drew (blk_new _ _)) (by omega) (by have := HZr.out; simp; omega) ?_; intro v' w5 h6 h3 h5; have h3' : wr.drew.grownBy w5 v1.ownBlock := (by first | exact (World.grownBy_alloc _ _ _).trans h3 | exact h3); obtain ⟨w6, hup, h7, h8⟩ := K1.out w5 v' ⟨lo, hi⟩ h3' h6 (h5.imp id (fun h => ⟨_, h, by simp⟩)); rw [← HG1.out] at h7; have HM6 := Aside0.mk h7; have HB6 := Aside0.mk (((below_drew1 HBr.out).grown h3' HBr.out.size (fun j hj => Nat.le_of_succ_le (R1.out.lt j hj).1)).grown h8 (Nat.le_trans HBr.out.size h3'.size) (fun j hj => by cases hj; exact Nat.le_refl _)); have HZ6 := Aside0.mk (Nat.le_trans HZr.out (Nat.le_trans h3'.size h8.size)); clear h6 h3 h3' h5 h7 h8)
                | (refine step_appendS rfl (.tmp 82) (.tmp 87) rfl (w4.heap.size + 1) v2 GB ⟨lo, hi⟩ _ 1 rfl rfl (by exact R2.out) (by exact blk_drew (blk_new _ _)) (by omega) (by have := HZr.out; simp; omega) ?_; intro v' w5 h6 h3 h5; obtain ⟨w6, hup, h7, h8⟩ := K2.out w5 v' ⟨lo, hi⟩ h3 h6 (h5.imp id (fun h => ⟨_, h, by simp⟩)); rw [← HG1.out] at h7; have HM6 := Aside0.mk h7; have HB6 := Aside0.mk (((below_drew1 (below_alloc HBr.out _)).grown h3 (Nat.le_trans HBr.out.size (by simp)) (fun j hj => Nat.le_of_succ_le (R2.out.lt j hj).1)).grown h8 (Nat.le_trans (Nat.le_trans HBr.out.size (by simp)) h3.size) (fun j hj => by cases hj; exact Nat.le_refl _)); have HZ6 := Aside0.mk (Nat.le_trans (Nat.le_trans HZr.out (by simp)) (Nat.le_trans h3.size h8.size)); clear h6 h3 h5 h7 h8))
              all_goals
                go_wp2
                go_roundw
                case rel => exact ⟨k + 1, by omega, by go_num, HB6, HM6, HCn, HZ6⟩
                case measure => simp [intOf]; omega
        · -- the place may not be had
          subst hbd
          have hf : res = false := by rw [← hcl]; exact HCf.out k (by rw [HpD.out, HsD.out, HOk.out]; rfl) _ hlt
          have HF := Aside0.mk hf
          clear hf
          go_wp2
          go_ret
          exact ⟨ret_bool HF.out.symm, HBw.out _ (below_step HB.out HBc.out)⟩
    · obtain rfl : l.length = k := by omega
      go_wp2
      go_ret
      exact ⟨ret_bool (by rw [← Hres.out]; exact HCk.out.symm), HBw.out _ HB.out⟩
end Go.Proofs.Ytlkkdpmloeipjaa
