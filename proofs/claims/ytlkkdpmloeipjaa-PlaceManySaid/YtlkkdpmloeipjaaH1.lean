/- carlingref12.Check: true at places that may be so. -/
import Derived.Test.YtlkkdpmloeipjaaG2
import Derived.Test.YtlkkdpmloeipjaaC4
import Derived.Test.YtlkkdpmloeipjaaP3
import Derived.Test.YtlkkdpmloeipjaaQ0
namespace Go.Proofs.Ytlkkdpmloeipjaa
open Go.RowKit Go.Proofs.YtlkkdpmloeipjaaW.PrintWords
set_option linter.unusedVariables false

theorem sp_get {E : List Sp} {r : Nat} (h : r < E.length) : E[r]? = some (sp E r) := by
  show _ = some (E.getD r zSp)
  rw [List.getD_eq_getElem?_getD, List.getElem?_eq_getElem h]
  rfl
theorem li_get {l : List Int} {r : Nat} (h : r < l.length) : l[r]? = some (l.getD r 0) := by
  rw [List.getD_eq_getElem?_getD, List.getElem?_eq_getElem h]
  rfl

set_option maxHeartbeats 16000000 in
set_option maxRecDepth 100000 in
theorem rcheck_true (c : Code) (l : List Int) (slots : Int) (n : Nat) (A1 : Option Addr) (c1 : Nat) (A4 : Option Addr) (c4 : Nat) (A : Option Addr) (cA : Nat) (w : World) (hok : CodeOk c) (hat : CodeAt w c A1 c1 A4 c4) (hl : Kd.C (Kd.int .i64) w A l.length l) (hb : (rightE c).1 = 0) (hn : (n : Int) = c.regs) (hs : slots ≤ 100000) (hP : PlaceOk c n l slots) :
    Calls Try.prog 34 #[codeV c A1 c1 A4 c4, .slice A l.length cA, .int .i64 slots] w fun e w' => e = .returned (.bool true) ∧ Below w.heap.size w w' := by
  have HO := Aside0.mk hok
  have HT := Aside0.mk hat
  have hl3 := hok.len
  have HLc := Aside0.mk hl
  have HR := Aside0.mk (fun W (hb : Below w.heap.size w W) => rright_any c A1 c1 A4 c4 W HO.out (HT.out.below hb))
  have HS := Aside0.mk (fun W (hb' : Below w.heap.size w W) => rspans_any c A1 c1 A4 c4 W HO.out (HT.out.below hb'))
  rw [← spans_ref c] at HS
  have hfc := formB_cells (right_facts hb).1
  have hr1 := hfc.2.2.2.1
  have hr0 := hfc.2.2.1
  have hll := hP.len
  subst hll
  have HEl := Aside0.mk (show (spansE c).length = l.length by unfold spansE; rw [if_pos hb, spansTo_length]; omega)
  have hbb : ((rightE c).1 != 0) = false := bne_eq_false_iff_eq.2 hb
  have hlb : ((l.length : Int) != c.regs) = false := bne_eq_false_iff_eq.2 hn
  have hs0 := hP.slots0
  have HKC := Aside0.mk (fun s W (hb : Below w.heap.size w W) => rcalls_any c s A1 c1 A4 c4 W HO.out.len (HT.out.below hb).l)
  have HAt := Aside0.mk hP.at_
  have HAp := Aside0.mk hP.apart
  clear hok hat hb hl hfc hP
  have hu2 := Try.underlying25
  have hu4 := Try.underlying26
  have hll : l.length ≤ 10000 := by omega
  obtain ⟨name, params, regs, cells, L⟩ := c
  simp only at hn hr1 hr0 hl3 hlb
  simp only [codeV, spV] at *
  generalize spansE ⟨name, params, regs, cells, L⟩ = E at *
  generalize rightE ⟨name, params, regs, cells, L⟩ = re at *
  obtain ⟨e1, e2⟩ := re
  simp only at hbb
  have hEl := HEl.out
  go_enter Try.func34, Try.ntmps34
  go_wp2_with (first
    | (go_at_call 27; (with_reducible refine (HR.out _ (below_alloc (Below.refl _ _) _)).mono ?_); rintro e w1 ⟨rfl, hB1⟩; have HB1 := Aside0.mk (show Below (w.heap.size + 1) _ w1 from by simpa using hB1); clear hB1; obtain ⟨g0, g1, g2, g3, g4⟩ := code_box1 (c := ⟨name, params, regs, cells, L⟩) HB1.out; (try simp only at g0 g1 g2 g3 g4))
    | (go_at_call 25; (with_reducible refine (HS.out w1 (below_of_box HB1.out)).mono ?_); rintro e w4 ⟨A3, c3, rfl, hc3, hC3, hB4⟩; have HB4 := Aside0.mk (box_step HB1.out hB4); have HC3 := Aside0.mk hC3; clear hB4 hC3 g0 g1 g2 g3 g4))
  have HBx := Aside0.mk (fun W (h : Below w4.heap.size w4 W) => code_box1 (c := ⟨name, params, regs, cells, L⟩) (box_step HB4.out h))
  have HBw := Aside0.mk (fun W (h : Below w4.heap.size w4 W) => below_of_box (box_step HB4.out h))
  go_loopw [10] (fun v10 wr => ∃ k : Nat, k ≤ l.length ∧ v10 = .int .i64 k ∧ Aside0 (Below w4.heap.size w4 wr)) (fun v10 _ => l.length - (intOf v10).toNat)
  case atStart => exact ⟨0, Nat.zero_le _, rfl, ⟨Below.refl _ _⟩⟩
  case round =>
    obtain ⟨k, hk, rfl, HB⟩ := hrel
    by_cases hlt : k < l.length
    · obtain ⟨adA, p, rfl, hp, hcp⟩ := nt_scalar HLc.out (HBw.out _ HB.out) k hlt
      obtain rfl : l.getD k 0 = p := by rw [li_get hlt] at hp; exact Option.some.inj hp
      clear hp hcp
      obtain ⟨a1, a2, a3⟩ := HAt.out k hlt
      have HPf := Aside0.mk (fun W (h : Below w4.heap.size w4 W) (j : Nat) (hj : j < l.length) => (show W.cell? (adA.add j) = some (.int .i64 (l.getD j 0)) from by
        obtain ⟨ad, p, e, hp, hc⟩ := nt_scalar HLc.out (HBw.out _ h) j hj
        injection e with e
        subst e
        obtain rfl : l.getD j 0 = p := by rw [li_get hj] at hp; exact Option.some.inj hp
        exact hc))
      obtain ⟨ad3, rfl⟩ : ∃ ad, A3 = some ad := by obtain ⟨_, ad, h, _⟩ := nt_Sp HC3.out (Below.refl _ _) k (by rw [HEl.out]; exact hlt); exact ⟨ad, h⟩
      have HSp := Aside0.mk (fun W (h : Below w4.heap.size w4 W) (j : Nat) (hj : j < l.length) => (show W.cell? (ad3.add (j * 2)) = some (.int .i64 (sp E j).lo) ∧ W.cell? ⟨(ad3.add (j * 2)).block, (ad3.add (j * 2)).off + 1, none⟩ = some (.int .i64 (sp E j).hi) from by
        obtain ⟨s1, ad, e, hs1, c1, c2⟩ := nt_Sp HC3.out h j (by rw [HEl.out]; exact hj)
        injection e with e
        subst e
        obtain rfl : sp E j = s1 := by rw [sp_get (by rw [HEl.out]; exact hj)] at hs1; exact Option.some.inj hs1
        exact ⟨c1, c2⟩))
      have HKs := Aside0.mk (fun W (h : Below w.heap.size w W) => HKC.out (sp E k) W h)
      have HApk := Aside0.mk (fun j (hj : j < k) => HAp.out k j hj hlt)
      have HPk := Aside0.mk (fun W (h : Below w4.heap.size w4 W) => HPf.out W h k hlt)
      have HSk := Aside0.mk (fun W (h : Below w4.heap.size w4 W) => HSp.out W h k hlt)
      generalize callsB ⟨name, params, regs, cells, L⟩ (sp E k) = cb at *
      generalize l.getD k 0 = p at *
      generalize sp E k = sk at *
      obtain ⟨lo, hi⟩ := sk
      (try simp only at HSk HKs)
      have n1 : ¬ p < 3 := by omega
      have n2 : ¬ (8 + slots ≤ p) := by omega
      have HA3 := Aside0.mk a3
      clear a3
      go_upto_region 8 with (fail)
      go_cut [66] (fun v66 wc => v66 = .bool false ∧ Aside0 (Below w4.heap.size w4 wc))
      case first =>
        cases cb
        · skip
          refine wp_region_class (S := Below wr.heap.size wr) (by kernel_rfl) (by kernel_rfl) (below_drew1 (Below.refl _ _)) ?_
          intro T f hTn hT0
          have hT := Aside0.mk hT0
          have hfb := fun q => below_step HB.out (class_mem hT0 q)
          have f0 := fun q => (HBx.out _ (hfb q)).1
          have f1 := fun q => (HBx.out _ (hfb q)).2.1
          have f2 := fun q => (HBx.out _ (hfb q)).2.2.1
          have f3 := fun q => (HBx.out _ (hfb q)).2.2.2.1
          have f4 := fun q => (HBx.out _ (hfb q)).2.2.2.2
          have f5 := fun q => (HSk.out _ (hfb q)).1
          have f6 := fun q => (HSk.out _ (hfb q)).2
          have f7 := fun q => HPk.out _ (hfb q)
          have HFb := Aside0.mk hfb
          clear hT0 hfb
          (try simp only at f0 f1 f2 f3 f4)
          repeat (go_big_quiet_step (first
            | (go_at_call 26; (with_reducible refine class_call hT.out (HKs.out _ ?_) ?_); exact (HBw.out _ (HFb.out _)); exact (fun _ h => below_step (class_mem hT.out _) h))))
          refine wpQuiet_nil ?_
          intro w8 hw8
          have HB8 := Aside0.mk (below_step HB.out ((hT.out _).2 hw8))
          clear hw8 f0 f1 f2 f3 f4 f5 f6 f7 hT HFb
          go_wp2
          go_meet
          case rel => exact ⟨by simp [*], HB8⟩
        · have n3 : ¬ p < 8 := by have := HA3.out rfl; omega
          refine wp_region_class (S := Below wr.heap.size wr) (by kernel_rfl) (by kernel_rfl) (below_drew1 (Below.refl _ _)) ?_
          intro T f hTn hT0
          have hT := Aside0.mk hT0
          have hfb := fun q => below_step HB.out (class_mem hT0 q)
          have f0 := fun q => (HBx.out _ (hfb q)).1
          have f1 := fun q => (HBx.out _ (hfb q)).2.1
          have f2 := fun q => (HBx.out _ (hfb q)).2.2.1
          have f3 := fun q => (HBx.out _ (hfb q)).2.2.2.1
          have f4 := fun q => (HBx.out _ (hfb q)).2.2.2.2
          have f5 := fun q => (HSk.out _ (hfb q)).1
          have f6 := fun q => (HSk.out _ (hfb q)).2
          have f7 := fun q => HPk.out _ (hfb q)
          have HFb := Aside0.mk hfb
          clear hT0 hfb
          (try simp only at f0 f1 f2 f3 f4)
          repeat (go_big_quiet_step (first
            | (go_at_call 26; (with_reducible refine class_call hT.out (HKs.out _ ?_) ?_); exact (HBw.out _ (HFb.out _)); exact (fun _ h => below_step (class_mem hT.out _) h))))
          refine wpQuiet_nil ?_
          intro w8 hw8
          have HB8 := Aside0.mk (below_step HB.out ((hT.out _).2 hw8))
          clear hw8 f0 f1 f2 f3 f4 f5 f6 f7 hT HFb
          go_wp2
          go_meet
          case rel => exact ⟨by simp [*], HB8⟩
      case rest =>
        obtain ⟨rfl, HBc⟩ := hcut
        clear n1 n2 a1 a2
        go_wp2
        go_loopw [11] (fun v11 wr => ∃ j : Nat, j ≤ k ∧ v11 = .int .i64 j ∧ Aside0 (Below w4.heap.size w4 wr)) (fun v11 _ => k - (intOf v11).toNat)
        case atStart => exact ⟨0, Nat.zero_le _, rfl, HBc⟩
        case round =>
          clear HB HBc
          obtain ⟨j, hj, rfl, HB⟩ := hrel
          by_cases hlt2 : j < k
          · have HPj := Aside0.mk (fun W (h : Below w4.heap.size w4 W) => HPf.out W h j (by omega))
            have HSj := Aside0.mk (fun W (h : Below w4.heap.size w4 W) => HSp.out W h j (by omega))
            have hap := HApk.out j hlt2
            rw [meetB_symm] at hap
            have HAp2 := Aside0.mk hap
            clear hap
            generalize l.getD j 0 = q at *
            generalize sp E j = sj at *
            obtain ⟨lo2, hi2⟩ := sj
            (try simp only at HSj)
            have HM0 := Aside0.mk (fun W => rmeet_any ⟨lo, hi⟩ ⟨lo2, hi2⟩ W)
            simp only [spV] at HM0
            go_upto_region 13 with (fail)
            by_cases he : q = p
            · subst he
              have hap := HAp2.out rfl
              rw [hap] at HM0
              clear hap
              refine wp_region_class (S := Below wr.heap.size wr) (by kernel_rfl) (by kernel_rfl) (below_drew1 (Below.refl _ _)) ?_
              intro T f hTn hT0
              have hT := Aside0.mk hT0
              have hfb := fun q => below_step HB.out (class_mem hT0 q)
              have f0 := fun q => (HSk.out _ (hfb q)).1
              have f1 := fun q => (HSk.out _ (hfb q)).2
              have f2 := fun q => HPk.out _ (hfb q)
              have f3 := fun q => (HSj.out _ (hfb q)).1
              have f4 := fun q => (HSj.out _ (hfb q)).2
              have f5 := fun q => HPj.out _ (hfb q)
              have HFb := Aside0.mk hfb
              clear hT0 hfb
              repeat (go_big_quiet_step (first
                | (go_at_call 21; (with_reducible refine class_call hT.out (HM0.out _) ?_); exact (fun _ h => below_step (class_mem hT.out _) h))))
              refine wpQuiet_nil ?_
              intro w8 hw8
              have HB8 := Aside0.mk (below_step HB.out ((hT.out _).2 hw8))
              clear hw8 f0 f1 f2 f3 f4 f5 hT HFb
              go_wp2
              go_roundw
              case rel => exact ⟨j + 1, by omega, by go_num, HB8⟩
              case measure => simp [intOf]; omega
            · have hne : (p == q) = false := beq_eq_false_iff_ne.2 (fun e => he e.symm)
              refine wp_region_class (S := Below wr.heap.size wr) (by kernel_rfl) (by kernel_rfl) (below_drew1 (Below.refl _ _)) ?_
              intro T f hTn hT0
              have hT := Aside0.mk hT0
              have hfb := fun q => below_step HB.out (class_mem hT0 q)
              have f0 := fun q => (HSk.out _ (hfb q)).1
              have f1 := fun q => (HSk.out _ (hfb q)).2
              have f2 := fun q => HPk.out _ (hfb q)
              have f3 := fun q => (HSj.out _ (hfb q)).1
              have f4 := fun q => (HSj.out _ (hfb q)).2
              have f5 := fun q => HPj.out _ (hfb q)
              have HFb := Aside0.mk hfb
              clear hT0 hfb
              repeat (go_big_quiet_step (first
                | (go_at_call 21; (with_reducible refine class_call hT.out (HM0.out _) ?_); exact (fun _ h => below_step (class_mem hT.out _) h))))
              refine wpQuiet_nil ?_
              intro w8 hw8
              have HB8 := Aside0.mk (below_step HB.out ((hT.out _).2 hw8))
              clear hw8 f0 f1 f2 f3 f4 f5 hT HFb
              go_wp2
              go_roundw
              case rel => exact ⟨j + 1, by omega, by go_num, HB8⟩
              case measure => simp [intOf]; omega
          · obtain rfl : k = j := by omega
            go_wp2
            go_roundw
            case rel => exact ⟨k + 1, by omega, by go_num, HB⟩
            case measure => simp [intOf]; omega
    · obtain rfl : l.length = k := by omega
      go_wp2
      go_ret
      exact ⟨rfl, HBw.out _ HB.out⟩
end Go.Proofs.Ytlkkdpmloeipjaa
