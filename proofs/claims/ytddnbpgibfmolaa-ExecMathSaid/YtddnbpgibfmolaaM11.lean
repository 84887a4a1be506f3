/- mach.Check: may code be, of so many cells? -/
import Derived.Test.YtddnbpgibfmolaaM10
import Derived.Test.YtddnbpgibfmolaaM4
namespace Go.Proofs.Ytddnbpgibfmolaa
open Go.RowKit Go.Proofs.YtddnbpgibfmolaaW.PrintWords
set_option linter.unusedVariables false

set_option maxHeartbeats 16000000 in
set_option maxRecDepth 100000 in
theorem mmcheck_ok (l : List Mi) (cells : Int) (A : Option Addr) (c : Nat) (w : World) (hl : Kd.C kMi w A l.length l) (hn : ∀ x ∈ l, 0 ≤ x.n ∧ x.n < 4294967296) (h1 : ¬ l.length = 0) (h2 : l.length ≤ 20000) (h3 : 0 ≤ cells) (h4 : cells ≤ 4096) :
    Calls Try.prog 37 #[.slice A l.length c, .int .i64 cells] w fun e w' => e = .returned (.tuple #[.int .i64 (mscan l cells l.length 0).1, .int .i64 (mscan l cells l.length 0).2]) ∧ Below w.heap.size w w' := by
  have hu := Try.underlying27
  have HL := Aside0.mk hl
  have HN := Aside0.mk hn
  have e1 : ((l.length : Int) == 0) = false := beq_eq_false_iff_ne.2 (by omega)
  have HS0 := Aside0.mk (rfl : mscan l cells l.length 0 = mscan l cells l.length 0)
  generalize hres : mscan l cells l.length 0 = res at *
  have Hres := Aside0.mk hres
  obtain ⟨r1, r2⟩ := res
  clear hres hl hn HS0
  simp only
  go_enter Try.func37, Try.ntmps37
  go_wp2
  go_loopw [26] (fun v26 wr => ∃ k : Nat, k ≤ l.length ∧ v26 = .int .i64 k ∧ Aside0 (Below w.heap.size w wr) ∧ Aside0 (mscan l cells (l.length - k) k = (r1, r2))) (fun v26 _ => l.length - (intOf v26).toNat)
  case atStart => exact ⟨0, Nat.zero_le _, rfl, ⟨Below.refl _ _⟩, Hres⟩
  case round =>
    obtain ⟨k, hk, rfl, HB, HS⟩ := hrel
    by_cases hlt : k < l.length
    · obtain ⟨x, ad, rfl, hx, c0, c1, c2, c3, c4, c5⟩ := nt_Mi HL.out HB.out k hlt
      have HX := Aside0.mk hx
      have hxn := HN.out x (List.mem_of_getElem? hx)
      have HR := Aside0.mk (fun W => mright_any x W)
      have HBad := Aside0.mk (fun he => mscan_bad (cells := cells) hx he)
      have HOk := Aside0.mk (fun he => mscan_ok (cells := cells) hx he)
      have HE := Aside0.mk (rfl : mwE l.length cells k x = mwE l.length cells k x)
      clear hx
      obtain ⟨kd, o, d, a, b, n⟩ := x
      simp only [miV] at *
      have HQ := Aside0.mk (fun (W : World) (h : Below (wr.alloc (.cells #[.int .i64 kd, .int .i64 o, .int .i64 d, .int .i64 a, .int .i64 b, .int .u32 n] 27)).heap.size (wr.alloc (.cells #[.int .i64 kd, .int .i64 o, .int .i64 d, .int .i64 a, .int .i64 b, .int .u32 n] 27)) W) => (show W.cell? ⟨wr.heap.size, 0, none⟩ = some (.int .i64 kd) ∧ W.cell? ⟨wr.heap.size, 1, none⟩ = some (.int .i64 o) ∧ W.cell? ⟨wr.heap.size, 2, none⟩ = some (.int .i64 d) ∧ W.cell? ⟨wr.heap.size, 3, none⟩ = some (.int .i64 a) ∧ W.cell? ⟨wr.heap.size, 4, none⟩ = some (.int .i64 b) ∧ W.cell? ⟨wr.heap.size, 5, none⟩ = some (.int .u32 n) from by
        have hb := (h.block wr.heap.size (by simp)).trans (blk_new wr _)
        exact ⟨blk_cell hb 0, blk_cell hb 1, blk_cell hb 2, blk_cell hb 3, blk_cell hb 4, blk_cell hb 5⟩))
      cases hm : miB ⟨kd, o, d, a, b, n⟩
      · rw [hm] at HR
        have HF := Aside0.mk (show mwE l.length cells k ⟨kd, o, d, a, b, n⟩ = 14 by unfold mwE; rw [hm]; rfl)
        go_wp2_with (go_at_call 64; (with_reducible refine (HR.out _).mono ?_); rintro e w2 ⟨rfl, hB2⟩; have HB2 := Aside0.mk (below_step (below_alloc HB.out _) hB2); obtain ⟨q0, q1, q2, q3, q4, q5⟩ := HQ.out w2 hB2; clear hB2)
        go_ret2
        exact ⟨by
          have hs := HS.out
          rw [HBad.out (by rw [HF.out]; decide), HF.out] at hs
          injection hs with s1 s2
          rw [← s1, ← s2]; rfl, HB2.out⟩
      · rw [hm] at HR
        have hkd := mi_parts0 hm
        simp only at hkd hxn
        have hw1 : IntKind.i64.wrap n = n := IntWalk.i64_in _ (by omega)
        have HM := Aside0.mk hm
        clear hm
        rcases (show kd = 1 ∨ kd = 2 ∨ kd = 3 ∨ kd = 4 ∨ kd = 5 ∨ kd = 6 ∨ kd = 7 ∨ kd = 8 ∨ kd = 9 by omega) with rfl | rfl | rfl | rfl | rfl | rfl | rfl | rfl | rfl
        · by_cases hk1 : k + 1 = l.length
          · have hla : ((k : Int) == (l.length : Int) - 1) = true := beq_iff_eq.2 (by omega)
            have HF := Aside0.mk (show mwE l.length cells k ⟨1, o, d, a, b, n⟩ = 18 from by unfold mwE; rw [HM.out]; simp [*]; try omega)
            go_wp2_with (go_at_call 64; (with_reducible refine (HR.out _).mono ?_); rintro e w2 ⟨rfl, hB2⟩; have HB2 := Aside0.mk (below_step (below_alloc HB.out _) hB2); obtain ⟨q0, q1, q2, q3, q4, q5⟩ := HQ.out w2 hB2; clear hB2)
            go_ret2
            exact ⟨by
          have hs := HS.out
          rw [HBad.out (by rw [HF.out]; decide), HF.out] at hs
          injection hs with s1 s2
          rw [← s1, ← s2]; rfl, HB2.out⟩
          · have hla : ((k : Int) == (l.length : Int) - 1) = false := beq_eq_false_iff_ne.2 (by omega)
            have HF := Aside0.mk (show mwE l.length cells k ⟨1, o, d, a, b, n⟩ = 0 from by unfold mwE; rw [HM.out]; simp [*]; try omega)
            go_wp2_with (go_at_call 64; (with_reducible refine (HR.out _).mono ?_); rintro e w2 ⟨rfl, hB2⟩; have HB2 := Aside0.mk (below_step (below_alloc HB.out _) hB2); obtain ⟨q0, q1, q2, q3, q4, q5⟩ := HQ.out w2 hB2; clear hB2)
            go_roundw
            case rel => exact ⟨k + 1, by omega, by go_num, HB2, ⟨by rw [← HOk.out HF.out]; exact HS.out⟩⟩
            case measure => simp [intOf]; omega
        · by_cases hk1 : k + 1 = l.length
          · have hla : ((k : Int) == (l.length : Int) - 1) = true := beq_iff_eq.2 (by omega)
            have HF := Aside0.mk (show mwE l.length cells k ⟨2, o, d, a, b, n⟩ = 18 from by unfold mwE; rw [HM.out]; simp [*]; try omega)
            go_wp2_with (go_at_call 64; (with_reducible refine (HR.out _).mono ?_); rintro e w2 ⟨rfl, hB2⟩; have HB2 := Aside0.mk (below_step (below_alloc HB.out _) hB2); obtain ⟨q0, q1, q2, q3, q4, q5⟩ := HQ.out w2 hB2; clear hB2)
            go_ret2
            exact ⟨by
          have hs := HS.out
          rw [HBad.out (by rw [HF.out]; decide), HF.out] at hs
          injection hs with s1 s2
          rw [← s1, ← s2]; rfl, HB2.out⟩
          · have hla : ((k : Int) == (l.length : Int) - 1) = false := beq_eq_false_iff_ne.2 (by omega)
            have HF := Aside0.mk (show mwE l.length cells k ⟨2, o, d, a, b, n⟩ = 0 from by unfold mwE; rw [HM.out]; simp [*]; try omega)
            go_wp2_with (go_at_call 64; (with_reducible refine (HR.out _).mono ?_); rintro e w2 ⟨rfl, hB2⟩; have HB2 := Aside0.mk (below_step (below_alloc HB.out _) hB2); obtain ⟨q0, q1, q2, q3, q4, q5⟩ := HQ.out w2 hB2; clear hB2)
            go_roundw
            case rel => exact ⟨k + 1, by omega, by go_num, HB2, ⟨by rw [← HOk.out HF.out]; exact HS.out⟩⟩
            case measure => simp [intOf]; omega
        · by_cases hk1 : k + 1 = l.length
          · have hla : ((k : Int) == (l.length : Int) - 1) = true := beq_iff_eq.2 (by omega)
            have HF := Aside0.mk (show mwE l.length cells k ⟨3, o, d, a, b, n⟩ = 18 from by unfold mwE; rw [HM.out]; simp [*]; try omega)
            go_wp2_with (go_at_call 64; (with_reducible refine (HR.out _).mono ?_); rintro e w2 ⟨rfl, hB2⟩; have HB2 := Aside0.mk (below_step (below_alloc HB.out _) hB2); obtain ⟨q0, q1, q2, q3, q4, q5⟩ := HQ.out w2 hB2; clear hB2)
            go_ret2
            exact ⟨by
          have hs := HS.out
          rw [HBad.out (by rw [HF.out]; decide), HF.out] at hs
          injection hs with s1 s2
          rw [← s1, ← s2]; rfl, HB2.out⟩
          · have hla : ((k : Int) == (l.length : Int) - 1) = false := beq_eq_false_iff_ne.2 (by omega)
            have HF := Aside0.mk (show mwE l.length cells k ⟨3, o, d, a, b, n⟩ = 0 from by unfold mwE; rw [HM.out]; simp [*]; try omega)
            go_wp2_with (go_at_call 64; (with_reducible refine (HR.out _).mono ?_); rintro e w2 ⟨rfl, hB2⟩; have HB2 := Aside0.mk (below_step (below_alloc HB.out _) hB2); obtain ⟨q0, q1, q2, q3, q4, q5⟩ := HQ.out w2 hB2; clear hB2)
            go_roundw
            case rel => exact ⟨k + 1, by omega, by go_num, HB2, ⟨by rw [← HOk.out HF.out]; exact HS.out⟩⟩
            case measure => simp [intOf]; omega
        · by_cases hb : cells ≤ n
          · skip
            have HF := Aside0.mk (show mwE l.length cells k ⟨4, o, d, a, b, n⟩ = 16 from by unfold mwE; rw [HM.out]; simp [*]; try omega)
            go_wp2_with (go_at_call 64; (with_reducible refine (HR.out _).mono ?_); rintro e w2 ⟨rfl, hB2⟩; have HB2 := Aside0.mk (below_step (below_alloc HB.out _) hB2); obtain ⟨q0, q1, q2, q3, q4, q5⟩ := HQ.out w2 hB2; clear hB2)
            go_ret2
            exact ⟨by
          have hs := HS.out
          rw [HBad.out (by rw [HF.out]; decide), HF.out] at hs
          injection hs with s1 s2
          rw [← s1, ← s2]; rfl, HB2.out⟩
          by_cases hk1 : k + 1 = l.length
          · have hla : ((k : Int) == (l.length : Int) - 1) = true := beq_iff_eq.2 (by omega)
            have HF := Aside0.mk (show mwE l.length cells k ⟨4, o, d, a, b, n⟩ = 18 from by unfold mwE; rw [HM.out]; simp [*]; try omega)
            go_wp2_with (go_at_call 64; (with_reducible refine (HR.out _).mono ?_); rintro e w2 ⟨rfl, hB2⟩; have HB2 := Aside0.mk (below_step (below_alloc HB.out _) hB2); obtain ⟨q0, q1, q2, q3, q4, q5⟩ := HQ.out w2 hB2; clear hB2)
            go_ret2
            exact ⟨by
          have hs := HS.out
          rw [HBad.out (by rw [HF.out]; decide), HF.out] at hs
          injection hs with s1 s2
          rw [← s1, ← s2]; rfl, HB2.out⟩
          · have hla : ((k : Int) == (l.length : Int) - 1) = false := beq_eq_false_iff_ne.2 (by omega)
            have HF := Aside0.mk (show mwE l.length cells k ⟨4, o, d, a, b, n⟩ = 0 from by unfold mwE; rw [HM.out]; simp [*]; try omega)
            go_wp2_with (go_at_call 64; (with_reducible refine (HR.out _).mono ?_); rintro e w2 ⟨rfl, hB2⟩; have HB2 := Aside0.mk (below_step (below_alloc HB.out _) hB2); obtain ⟨q0, q1, q2, q3, q4, q5⟩ := HQ.out w2 hB2; clear hB2)
            go_roundw
            case rel => exact ⟨k + 1, by omega, by go_num, HB2, ⟨by rw [← HOk.out HF.out]; exact HS.out⟩⟩
            case measure => simp [intOf]; omega
        · by_cases hb : cells ≤ n
          · skip
            have HF := Aside0.mk (show mwE l.length cells k ⟨5, o, d, a, b, n⟩ = 16 from by unfold mwE; rw [HM.out]; simp [*]; try omega)
            go_wp2_with (go_at_call 64; (with_reducible refine (HR.out _).mono ?_); rintro e w2 ⟨rfl, hB2⟩; have HB2 := Aside0.mk (below_step (below_alloc HB.out _) hB2); obtain ⟨q0, q1, q2, q3, q4, q5⟩ := HQ.out w2 hB2; clear hB2)
            go_ret2
            exact ⟨by
          have hs := HS.out
          rw [HBad.out (by rw [HF.out]; decide), HF.out] at hs
          injection hs with s1 s2
          rw [← s1, ← s2]; rfl, HB2.out⟩
          by_cases hk1 : k + 1 = l.length
          · have hla : ((k : Int) == (l.length : Int) - 1) = true := beq_iff_eq.2 (by omega)
            have HF := Aside0.mk (show mwE l.length cells k ⟨5, o, d, a, b, n⟩ = 18 from by unfold mwE; rw [HM.out]; simp [*]; try omega)
            go_wp2_with (go_at_call 64; (with_reducible refine (HR.out _).mono ?_); rintro e w2 ⟨rfl, hB2⟩; have HB2 := Aside0.mk (below_step (below_alloc HB.out _) hB2); obtain ⟨q0, q1, q2, q3, q4, q5⟩ := HQ.out w2 hB2; clear hB2)
            go_ret2
            exact ⟨by
          have hs := HS.out
          rw [HBad.out (by rw [HF.out]; decide), HF.out] at hs
          injection hs with s1 s2
          rw [← s1, ← s2]; rfl, HB2.out⟩
          · have hla : ((k : Int) == (l.length : Int) - 1) = false := beq_eq_false_iff_ne.2 (by omega)
            have HF := Aside0.mk (show mwE l.length cells k ⟨5, o, d, a, b, n⟩ = 0 from by unfold mwE; rw [HM.out]; simp [*]; try omega)
            go_wp2_with (go_at_call 64; (with_reducible refine (HR.out _).mono ?_); rintro e w2 ⟨rfl, hB2⟩; have HB2 := Aside0.mk (below_step (below_alloc HB.out _) hB2); obtain ⟨q0, q1, q2, q3, q4, q5⟩ := HQ.out w2 hB2; clear hB2)
            go_roundw
            case rel => exact ⟨k + 1, by omega, by go_num, HB2, ⟨by rw [← HOk.out HF.out]; exact HS.out⟩⟩
            case measure => simp [intOf]; omega
        · by_cases hb : (l.length : Int) ≤ n
          · skip
            have HF := Aside0.mk (show mwE l.length cells k ⟨6, o, d, a, b, n⟩ = 17 from by unfold mwE; rw [HM.out]; simp [*]; try omega)
            go_wp2_with (go_at_call 64; (with_reducible refine (HR.out _).mono ?_); rintro e w2 ⟨rfl, hB2⟩; have HB2 := Aside0.mk (below_step (below_alloc HB.out _) hB2); obtain ⟨q0, q1, q2, q3, q4, q5⟩ := HQ.out w2 hB2; clear hB2)
            go_ret2
            exact ⟨by
          have hs := HS.out
          rw [HBad.out (by rw [HF.out]; decide), HF.out] at hs
          injection hs with s1 s2
          rw [← s1, ← s2]; rfl, HB2.out⟩
          by_cases hk1 : k + 1 = l.length
          · have hla : ((k : Int) == (l.length : Int) - 1) = true := beq_iff_eq.2 (by omega)
            have HF := Aside0.mk (show mwE l.length cells k ⟨6, o, d, a, b, n⟩ = 0 from by unfold mwE; rw [HM.out]; simp [*]; try omega)
            go_wp2_with (go_at_call 64; (with_reducible refine (HR.out _).mono ?_); rintro e w2 ⟨rfl, hB2⟩; have HB2 := Aside0.mk (below_step (below_alloc HB.out _) hB2); obtain ⟨q0, q1, q2, q3, q4, q5⟩ := HQ.out w2 hB2; clear hB2)
            go_roundw
            case rel => exact ⟨k + 1, by omega, by go_num, HB2, ⟨by rw [← HOk.out HF.out]; exact HS.out⟩⟩
            case measure => simp [intOf]; omega
          · have hla : ((k : Int) == (l.length : Int) - 1) = false := beq_eq_false_iff_ne.2 (by omega)
            have HF := Aside0.mk (show mwE l.length cells k ⟨6, o, d, a, b, n⟩ = 0 from by unfold mwE; rw [HM.out]; simp [*]; try omega)
            go_wp2_with (go_at_call 64; (with_reducible refine (HR.out _).mono ?_); rintro e w2 ⟨rfl, hB2⟩; have HB2 := Aside0.mk (below_step (below_alloc HB.out _) hB2); obtain ⟨q0, q1, q2, q3, q4, q5⟩ := HQ.out w2 hB2; clear hB2)
            go_roundw
            case rel => exact ⟨k + 1, by omega, by go_num, HB2, ⟨by rw [← HOk.out HF.out]; exact HS.out⟩⟩
            case measure => simp [intOf]; omega
        · by_cases hb : (l.length : Int) ≤ n
          · skip
            have HF := Aside0.mk (show mwE l.length cells k ⟨7, o, d, a, b, n⟩ = 17 from by unfold mwE; rw [HM.out]; simp [*]; try omega)
            go_wp2_with (go_at_call 64; (with_reducible refine (HR.out _).mono ?_); rintro e w2 ⟨rfl, hB2⟩; have HB2 := Aside0.mk (below_step (below_alloc HB.out _) hB2); obtain ⟨q0, q1, q2, q3, q4, q5⟩ := HQ.out w2 hB2; clear hB2)
            go_ret2
            exact ⟨by
          have hs := HS.out
          rw [HBad.out (by rw [HF.out]; decide), HF.out] at hs
          injection hs with s1 s2
          rw [← s1, ← s2]; rfl, HB2.out⟩
          by_cases hk1 : k + 1 = l.length
          · have hla : ((k : Int) == (l.length : Int) - 1) = true := beq_iff_eq.2 (by omega)
            have HF := Aside0.mk (show mwE l.length cells k ⟨7, o, d, a, b, n⟩ = 18 from by unfold mwE; rw [HM.out]; simp [*]; try omega)
            go_wp2_with (go_at_call 64; (with_reducible refine (HR.out _).mono ?_); rintro e w2 ⟨rfl, hB2⟩; have HB2 := Aside0.mk (below_step (below_alloc HB.out _) hB2); obtain ⟨q0, q1, q2, q3, q4, q5⟩ := HQ.out w2 hB2; clear hB2)
            go_ret2
            exact ⟨by
          have hs := HS.out
          rw [HBad.out (by rw [HF.out]; decide), HF.out] at hs
          injection hs with s1 s2
          rw [← s1, ← s2]; rfl, HB2.out⟩
          · have hla : ((k : Int) == (l.length : Int) - 1) = false := beq_eq_false_iff_ne.2 (by omega)
            have HF := Aside0.mk (show mwE l.length cells k ⟨7, o, d, a, b, n⟩ = 0 from by unfold mwE; rw [HM.out]; simp [*]; try omega)
            go_wp2_with (go_at_call 64; (with_reducible refine (HR.out _).mono ?_); rintro e w2 ⟨rfl, hB2⟩; have HB2 := Aside0.mk (below_step (below_alloc HB.out _) hB2); obtain ⟨q0, q1, q2, q3, q4, q5⟩ := HQ.out w2 hB2; clear hB2)
            go_roundw
            case rel => exact ⟨k + 1, by omega, by go_num, HB2, ⟨by rw [← HOk.out HF.out]; exact HS.out⟩⟩
            case measure => simp [intOf]; omega
        · by_cases hb : (l.length : Int) ≤ n
          · skip
            have HF := Aside0.mk (show mwE l.length cells k ⟨8, o, d, a, b, n⟩ = 17 from by unfold mwE; rw [HM.out]; simp [*]; try omega)
            go_wp2_with (go_at_call 64; (with_reducible refine (HR.out _).mono ?_); rintro e w2 ⟨rfl, hB2⟩; have HB2 := Aside0.mk (below_step (below_alloc HB.out _) hB2); obtain ⟨q0, q1, q2, q3, q4, q5⟩ := HQ.out w2 hB2; clear hB2)
            go_ret2
            exact ⟨by
          have hs := HS.out
          rw [HBad.out (by rw [HF.out]; decide), HF.out] at hs
          injection hs with s1 s2
          rw [← s1, ← s2]; rfl, HB2.out⟩
          by_cases hk1 : k + 1 = l.length
          · have hla : ((k : Int) == (l.length : Int) - 1) = true := beq_iff_eq.2 (by omega)
            have HF := Aside0.mk (show mwE l.length cells k ⟨8, o, d, a, b, n⟩ = 18 from by unfold mwE; rw [HM.out]; simp [*]; try omega)
            go_wp2_with (go_at_call 64; (with_reducible refine (HR.out _).mono ?_); rintro e w2 ⟨rfl, hB2⟩; have HB2 := Aside0.mk (below_step (below_alloc HB.out _) hB2); obtain ⟨q0, q1, q2, q3, q4, q5⟩ := HQ.out w2 hB2; clear hB2)
            go_ret2
            exact ⟨by
          have hs := HS.out
          rw [HBad.out (by rw [HF.out]; decide), HF.out] at hs
          injection hs with s1 s2
          rw [← s1, ← s2]; rfl, HB2.out⟩
          · have hla : ((k : Int) == (l.length : Int) - 1) = false := beq_eq_false_iff_ne.2 (by omega)
            have HF := Aside0.mk (show mwE l.length cells k ⟨8, o, d, a, b, n⟩ = 0 from by unfold mwE; rw [HM.out]; simp [*]; try omega)
            go_wp2_with (go_at_call 64; (with_reducible refine (HR.out _).mono ?_); rintro e w2 ⟨rfl, hB2⟩; have HB2 := Aside0.mk (below_step (below_alloc HB.out _) hB2); obtain ⟨q0, q1, q2, q3, q4, q5⟩ := HQ.out w2 hB2; clear hB2)
            go_roundw
            case rel => exact ⟨k + 1, by omega, by go_num, HB2, ⟨by rw [← HOk.out HF.out]; exact HS.out⟩⟩
            case measure => simp [intOf]; omega
        · by_cases hk1 : k + 1 = l.length
          · have hla : ((k : Int) == (l.length : Int) - 1) = true := beq_iff_eq.2 (by omega)
            have HF := Aside0.mk (show mwE l.length cells k ⟨9, o, d, a, b, n⟩ = 0 from by unfold mwE; rw [HM.out]; simp [*]; try omega)
            go_wp2_with (go_at_call 64; (with_reducible refine (HR.out _).mono ?_); rintro e w2 ⟨rfl, hB2⟩; have HB2 := Aside0.mk (below_step (below_alloc HB.out _) hB2); obtain ⟨q0, q1, q2, q3, q4, q5⟩ := HQ.out w2 hB2; clear hB2)
            go_roundw
            case rel => exact ⟨k + 1, by omega, by go_num, HB2, ⟨by rw [← HOk.out HF.out]; exact HS.out⟩⟩
            case measure => simp [intOf]; omega
          · have hla : ((k : Int) == (l.length : Int) - 1) = false := beq_eq_false_iff_ne.2 (by omega)
            have HF := Aside0.mk (show mwE l.length cells k ⟨9, o, d, a, b, n⟩ = 0 from by unfold mwE; rw [HM.out]; simp [*]; try omega)
            go_wp2_with (go_at_call 64; (with_reducible refine (HR.out _).mono ?_); rintro e w2 ⟨rfl, hB2⟩; have HB2 := Aside0.mk (below_step (below_alloc HB.out _) hB2); obtain ⟨q0, q1, q2, q3, q4, q5⟩ := HQ.out w2 hB2; clear hB2)
            go_roundw
            case rel => exact ⟨k + 1, by omega, by go_num, HB2, ⟨by rw [← HOk.out HF.out]; exact HS.out⟩⟩
            case measure => simp [intOf]; omega
    · obtain rfl : l.length = k := by omega
      have hS := HS.out
      rw [mscan_end] at hS
      injection hS with s1 s2
      subst s1 s2
      go_wp2
      go_ret2
      exact ⟨rfl, HB.out⟩

set_option maxHeartbeats 4000000 in
theorem mmcheck_form (l : List Mi) (cells : Int) (A : Option Addr) (c : Nat) (w : World) (hl : l.length ≤ 9223372036854775807) (h : l.length = 0 ∨ 20000 < l.length ∨ cells < 0 ∨ 4096 < cells) :
    Calls Try.prog 37 #[.slice A l.length c, .int .i64 cells] w fun e w' => e = .returned (.tuple #[.int .i64 6, .int .i64 (-1)]) ∧ Below w.heap.size w w' := by
  rcases (show (l.length : Int) = 0 ∨ (¬ (l.length : Int) = 0 ∧ (20000 : Int) < l.length) ∨ (¬ (l.length : Int) = 0 ∧ ¬ (20000 : Int) < l.length ∧ cells < 0) ∨ (¬ (l.length : Int) = 0 ∧ ¬ (20000 : Int) < l.length ∧ ¬ cells < 0 ∧ 4096 < cells) from by omega) with h1 | ⟨h1, h2⟩ | ⟨h1, h2, h3⟩ | ⟨h1, h2, h3, h4⟩
  · have e1 : ((l.length : Int) == 0) = true := beq_iff_eq.2 h1
    clear h h1
    generalize l.length = m at *
    go_enter Try.func37, Try.ntmps37
    go_wp2
    go_ret2
    exact ⟨rfl, Below.refl _ _⟩
  all_goals
    have e1 : ((l.length : Int) == 0) = false := beq_eq_false_iff_ne.2 h1
    clear h h1
    generalize l.length = m at *
    go_enter Try.func37, Try.ntmps37
    go_wp2
    go_ret2
    exact ⟨rfl, Below.refl _ _⟩

theorem mmcheck_any (l : List Mi) (cells : Int) (A : Option Addr) (c : Nat) (w : World) (hl : Kd.C kMi w A l.length l) (hn : ∀ x ∈ l, 0 ≤ x.n ∧ x.n < 4294967296) :
    Calls Try.prog 37 #[.slice A l.length c, .int .i64 cells] w fun e w' => e = .returned (.tuple #[.int .i64 (mcheckE l cells).1, .int .i64 (mcheckE l cells).2]) ∧ Below w.heap.size w w' := by
  unfold mcheckE
  by_cases h : l.length = 0 ∨ 20000 < l.length ∨ cells < 0 ∨ 4096 < cells
  · rw [if_pos h]
    exact mmcheck_form l cells A c w hl.2.1 h
  · rw [if_neg h]
    exact mmcheck_ok l cells A c w hl hn (by omega) (by omega) (by omega) (by omega)
end Go.Proofs.Ytddnbpgibfmolaa
