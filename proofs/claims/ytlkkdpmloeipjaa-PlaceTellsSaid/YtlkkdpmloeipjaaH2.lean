/- carlingref12.Easy: where it says so, no slots are needed. -/
import Derived.Test.YtlkkdpmloeipjaaH1
namespace Go.Proofs.Ytlkkdpmloeipjaa
open Go.RowKit Go.Proofs.YtlkkdpmloeipjaaW.PrintWords
set_option linter.unusedVariables false

/-- What Easy hands back. -/
def RetEasy (w : World) (EY : Prop) (e : Ending) (w' : World) : Prop := ∃ b, e = .returned (.bool b) ∧ (b = true → EY) ∧ Below w.heap.size w w'

set_option maxHeartbeats 16000000 in
set_option maxRecDepth 100000 in
theorem easy_any (c : Code) (n : Nat) (A1 : Option Addr) (c1 : Nat) (A4 : Option Addr) (c4 : Nat) (w : World) (hok : CodeOk c) (hat : CodeAt w c A1 c1 A4 c4) (hb : (rightE c).1 = 0) (hn : (n : Int) = c.regs) :
    Calls Try.prog 35 #[codeV c A1 c1 A4 c4] w (RetEasy w (EasyOk c (spansE c) n)) := by
  have HO := Aside0.mk hok
  have HT := Aside0.mk hat
  have hl3 := hok.len
  have HS := Aside0.mk (fun W (hb' : Below w.heap.size w W) => rspans_any c A1 c1 A4 c4 W HO.out (HT.out.below hb'))
  rw [← spans_ref c] at HS
  have hfc := formB_cells (right_facts hb).1
  have hr1 := hfc.2.2.2.1
  have hr0 := hfc.2.2.1
  have HEl := Aside0.mk (show (spansE c).length = n by unfold spansE; rw [if_pos hb, spansTo_length]; omega)
  have HKC := Aside0.mk (fun s W (hb : Below w.heap.size w W) => rcalls_any c s A1 c1 A4 c4 W HO.out.len (HT.out.below hb).l)
  have HEy := Aside0.mk (fun (h1 : ∀ r, r < n → callsB c (sp (spansE c) r) = false) (h2 : ∀ i : Nat, i ≤ c.l.length → covTo (spansE c) i n ≤ 5) => EasyOk.mk h1 h2)
  clear hok hat hb hfc
  have hu2 := Try.underlying25
  have hu4 := Try.underlying26
  have hll : n ≤ 10000 := by omega
  have HCS := Aside0.mk (fun i k => covTo_succ (spansE c) i k)
  have HCL := Aside0.mk (fun i k => covTo_le (spansE c) i k)
  have HC0 := Aside0.mk (show ∀ i, covTo (spansE c) i 0 = 0 from fun _ => rfl)
  generalize hEY : EasyOk c (spansE c) n = EY at *
  clear hEY
  obtain ⟨name, params, regs, cells, L⟩ := c
  simp only at hn hr1 hr0 hl3
  simp only [codeV, spV] at *
  generalize spansE ⟨name, params, regs, cells, L⟩ = E at *
  generalize covTo E = CV at *
  have hEl := HEl.out
  subst hEl
  go_enter Try.func35, Try.ntmps35
  go_wp2_with (go_at_call 25; (with_reducible refine (HS.out _ (below_alloc (Below.refl _ _) _)).mono ?_); rintro e w4 ⟨A3, c3, rfl, hc3, hC3, hB4⟩; have HB4 := Aside0.mk (show Below (w.heap.size + 1) _ w4 from by simpa using hB4); have HC3 := Aside0.mk hC3; clear hB4 hC3)
  have HBx := Aside0.mk (fun W (h : Below w4.heap.size w4 W) => code_box1 (c := ⟨name, params, regs, cells, L⟩) (box_step HB4.out h))
  have HBw := Aside0.mk (fun W (h : Below w4.heap.size w4 W) => below_of_box (box_step HB4.out h))
  go_loopw [4] (fun v4 wr => ∃ k : Nat, k ≤ E.length ∧ v4 = .int .i64 k ∧ Aside0 (Below w4.heap.size w4 wr) ∧ Aside0 (∀ r, r < k → callsB ⟨name, params, regs, cells, L⟩ (sp E r) = false)) (fun v4 _ => E.length - (intOf v4).toNat)
  case atStart => exact ⟨0, Nat.zero_le _, rfl, ⟨Below.refl _ _⟩, ⟨fun r h => by omega⟩⟩
  case round =>
    obtain ⟨k, hk, rfl, HB, HNo⟩ := hrel
    by_cases hlt : k < E.length
    · obtain ⟨s1, ad3, rfl, hs1, _, _⟩ := nt_Sp HC3.out (Below.refl _ _) k hlt
      clear hs1
      have HSk := Aside0.mk (fun W (h : Below w4.heap.size w4 W) => (show W.cell? (ad3.add (k * 2)) = some (.int .i64 (sp E k).lo) ∧ W.cell? ⟨(ad3.add (k * 2)).block, (ad3.add (k * 2)).off + 1, none⟩ = some (.int .i64 (sp E k).hi) from by
        obtain ⟨s1, ad, e, hs1, c1, c2⟩ := nt_Sp HC3.out h k hlt
        injection e with e
        subst e
        obtain rfl : sp E k = s1 := by rw [sp_get hlt] at hs1; exact Option.some.inj hs1
        exact ⟨c1, c2⟩))
      have HKs := Aside0.mk (fun W (h : Below w.heap.size w W) => HKC.out (sp E k) W h)
      cases hcb : callsB ⟨name, params, regs, cells, L⟩ (sp E k)
      all_goals
        have Hcb := Aside0.mk hcb
        rw [hcb] at HKs
        clear hcb
        have Hsk := Aside0.mk (rfl : sp E k = sp E k)
        generalize hsk : sp E k = sk at HSk HKs
        clear hsk
        obtain ⟨lo, hi⟩ := sk
        (try simp only at HSk HKs)
        go_upto_region 5 with (fail)
        refine wp_region_class (S := Below wr.heap.size wr) (by kernel_rfl) (by kernel_rfl) (below_drew1 (Below.refl _ _)) ?_
        intro T f hTn hT0
        have hT := Aside0.mk hT0
        have hfb := fun q => below_step HB.out (class_mem hT0 q)
        have f0 := fun q => (HBx.out _ (hfb q)).1
        have f1 := fun q => (HBx.out _ (hfb q)).2.1
        have f2 := fun q => (HBx.out _ (hfb q)).2.2.1
        have f3 := fun q => (HBx.out _ (hfb q)).2.2.2.1
        have f4 := fun q => (HBx.out _ (hfb q)).2.2.2.2
        have f5 := fun q => (HSk.out _ (hfb q)).1
        have f6 := fun q => (HSk.out _ (hfb q)).2
        have HFb := Aside0.mk hfb
        clear hT0 hfb
        (try simp only at f0 f1 f2 f3 f4)
        repeat (go_big_quiet_step (first
          | (go_at_call 26; (with_reducible refine class_call hT.out (HKs.out _ ?_) ?_); exact (HBw.out _ (HFb.out _)); exact (fun _ h => below_step (class_mem hT.out _) h))))
        refine wpQuiet_nil ?_
        intro w8 hw8
        have HB8 := Aside0.mk (below_step HB.out ((hT.out _).2 hw8))
        clear hw8 f0 f1 f2 f3 f4 f5 f6 hT HFb
        go_wp2
      · go_roundw
        case rel =>
          refine ⟨k + 1, by omega, by go_num, HB8, ⟨fun r hr => ?_⟩⟩
          by_cases hrk : r < k
          · exact HNo.out r hrk
          · obtain rfl : r = k := by omega
            exact Hcb.out
        case measure => simp [intOf]; omega
      · go_ret
        exact ⟨false, rfl, fun h => (by cases h), HBw.out _ HB8.out⟩
    · obtain rfl : E.length = k := by omega
      generalize wr = wa at *
      go_wp2
      go_loopw [5] (fun v5 wr => ∃ i : Nat, i ≤ L.length + 1 ∧ v5 = .int .i64 i ∧ wr = wa ∧ Aside0 (∀ j : Nat, j < i → CV j E.length ≤ 5)) (fun v5 _ => L.length + 1 - (intOf v5).toNat)
      case atStart => exact ⟨0, Nat.zero_le _, rfl, rfl, ⟨fun r h => by omega⟩⟩
      case round =>
        obtain ⟨i, hi, rfl, rfl, HCo⟩ := hrel
        obtain ⟨g0, g1, g2, g3, g4⟩ := HBx.out _ HB.out
        (try simp only at g0 g1 g2 g3 g4)
        by_cases hlt2 : i < L.length + 1
        · have hil : (i : Int) ≤ L.length := by omega
          go_wp2
          go_loopw [6, 7] (fun v6 v7 wr' => ∃ k : Nat, k ≤ E.length ∧ v6 = .int .i64 (CV i k) ∧ v7 = .int .i64 k ∧ wr' = wr) (fun _ v7 _ => E.length - (intOf v7).toNat)
          case atStart => exact ⟨0, Nat.zero_le _, by rw [HC0.out]; rfl, rfl, rfl⟩
          case round =>
            obtain ⟨k, hk, rfl, rfl, rfl⟩ := hrel
            by_cases hlt3 : k < E.length
            · obtain ⟨s1, ad3, rfl, hs1, q1, q2⟩ := nt_Sp HC3.out HB.out k hlt3
              obtain rfl : sp E k = s1 := by rw [sp_get hlt3] at hs1; exact Option.some.inj hs1
              have hcs := HCS.out i k
              have hcl := HCL.out i k
              clear hs1
              generalize sp E k = sk at *
              obtain ⟨lo, hi'⟩ := sk
              simp only at q1 q2 hcs
              by_cases h1 : lo < (i : Int)
              · by_cases h2 : (i : Int) ≤ hi'
                · rw [if_pos ⟨h1, h2⟩] at hcs
                  have HCs := Aside0.mk hcs
                  clear hcs
                  go_wp2
                  go_roundw
                  case rel => exact ⟨k + 1, by omega, by rw [HCs.out]; go_num, by go_num, trivial⟩
                  case measure => simp [intOf]; omega
                · rw [if_neg (fun e => h2 e.2)] at hcs
                  have HCs := Aside0.mk hcs
                  clear hcs
                  go_wp2
                  go_roundw
                  case rel => exact ⟨k + 1, by omega, by rw [HCs.out]; rfl, by go_num, trivial⟩
                  case measure => simp [intOf]; omega
              · rw [if_neg (fun e => h1 e.1)] at hcs
                have HCs := Aside0.mk hcs
                clear hcs
                go_wp2
                go_roundw
                case rel => exact ⟨k + 1, by omega, by rw [HCs.out]; rfl, by go_num, trivial⟩
                case measure => simp [intOf]; omega
            · obtain rfl : E.length = k := by omega
              by_cases h5 : CV i E.length ≤ 5
              · have h5' : ¬ ((5 : Int) < (CV i E.length : Int)) := by omega
                have H5 := Aside0.mk h5
                go_wp2
                go_roundw
                case rel =>
                  refine ⟨i + 1, by omega, by go_num, trivial, ⟨fun j hj => ?_⟩⟩
                  by_cases hji : j < i
                  · exact HCo.out j hji
                  · obtain rfl : j = i := by omega
                    exact H5.out
                case measure => simp [intOf]; omega
              · have h5' : (5 : Int) < (CV i E.length : Int) := by omega
                go_wp2
                go_ret
                exact ⟨false, rfl, fun h => (by cases h), HBw.out _ HB.out⟩
        · obtain rfl : L.length + 1 = i := by omega
          go_wp2
          go_ret
          exact ⟨true, rfl, fun _ => HEy.out HNo.out (fun i hi => HCo.out i (by omega)), HBw.out _ HB.out⟩
end Go.Proofs.Ytlkkdpmloeipjaa
