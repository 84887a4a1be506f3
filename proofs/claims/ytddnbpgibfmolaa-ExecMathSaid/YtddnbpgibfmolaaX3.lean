/- exec.entry: may an entry be? -/
import Derived.Test.YtddnbpgibfmolaaX2
namespace Go.Proofs.Ytddnbpgibfmolaa
open Go.RowKit Go.Proofs.YtddnbpgibfmolaaW.PrintWords
set_option linter.unusedVariables false

abbrev entV (x : Entry) (A : Option Addr) (c : Nat) : Value := .agg #[.string x.name, .slice A x.params.length c, .int .i64 x.pos, .int .i64 x.base, .int .i64 x.cells]
abbrev imgV (m : Image) (A0 : Option Addr) (c0 : Nat) (A1 : Option Addr) (c1 : Nat) : Value := .agg #[.slice A0 m.entries.length c0, .slice A1 m.code.length c1, .int .i64 m.mem]

set_option maxHeartbeats 16000000 in
set_option maxRecDepth 100000 in
theorem entry_any (x : Entry) (A : Option Addr) (c : Nat) (m : Image) (A0 : Option Addr) (c0 : Nat) (A1 : Option Addr) (c1 : Nat) (w : World) (hs : x.name.size ≤ 140737488351232) (hp : Kd.C kTy w A x.params.length x.params) (hm0 : 0 ≤ m.mem) (hm1 : m.mem ≤ 4096) (hl : m.code.length ≤ 20000) :
    Calls Try.prog 38 #[entV x A c, imgV m A0 c0 A1 c1] w fun e w' => e = .returned (.bool (entB x m.code.length m.mem)) ∧ Below w.heap.size w w' := by
  have HP := Aside0.mk hp
  have hpl := hp.2.1
  clear hp
  have hu := Try.underlying36
  have hu2 := Try.underlying31
  have hu3 := Try.underlying33
  obtain ⟨name, params, pos, base, cells⟩ := x
  obtain ⟨entries, code, mem⟩ := m
  simp only [entV, imgV] at *
  have HX := Aside0.mk (fun (W : World) (h : Below (w.heap.size + 2) ((w.alloc (.cells #[.string name, .slice A params.length c, .int .i64 pos, .int .i64 base, .int .i64 cells] 36)).alloc (.cells #[.slice A0 entries.length c0, .slice A1 code.length c1, .int .i64 mem] 31)) W) => (show (W.cell? ⟨w.heap.size, 1, none⟩ = some (.slice A params.length c) ∧ W.cell? ⟨w.heap.size, 2, none⟩ = some (.int .i64 pos) ∧ W.cell? ⟨w.heap.size, 3, none⟩ = some (.int .i64 base) ∧ W.cell? ⟨w.heap.size, 4, none⟩ = some (.int .i64 cells)) ∧
    W.cell? ⟨w.heap.size + 1, 1, none⟩ = some (.slice A1 code.length c1) ∧ W.cell? ⟨w.heap.size + 1, 2, none⟩ = some (.int .i64 mem) from
    ⟨⟨box2_fst h 1, box2_fst h 2, box2_fst h 3, box2_fst h 4⟩, box2_snd h 1, box2_snd h 2⟩))
  cases hd : dotAt name with
  | none =>
    have HV := Aside0.mk (show cutV name = .tuple #[.string name, .string ⟨#[]⟩, .bool false] by rw [cutV, hd])
    have HF := Aside0.mk (show entB ⟨name, params, pos, base, cells⟩ code.length mem = false by simp [entB, namedB, hd])
    clear hd
    go_enter Try.func38, Try.ntmps38
    go_wp2_with (go_at_call 67; (with_reducible refine (cut_any name _ hs).mono ?_); rintro e w' ⟨rfl, q, rfl⟩; rw [HV.out])
    go_ret
    exact ⟨ret_bool HF.out.symm, pw_below_drewN (below_alloc (below_alloc (Below.refl _ _) _) _) _⟩
  | some j =>
    have HV := Aside0.mk (show cutV name = .tuple #[.string (name.extract 0 j), .string (name.extract (j + 1) name.size), .bool true] by rw [cutV, hd])
    have HN := Aside0.mk (show namedB name = (nameB (name.extract 0 j) && nameB (name.extract (j + 1) name.size)) by rw [namedB, hd])
    have hs1 := ext_le name 0 j hs
    have hs2 := ext_le name (j + 1) name.size hs
    clear hd
    cases hb1 : nameB (name.extract 0 j)
    · have HF := Aside0.mk (show entB ⟨name, params, pos, base, cells⟩ code.length mem = false by simp [entB, HN.out, hb1])
      go_enter Try.func38, Try.ntmps38
      go_wp2_with (first
        | (go_at_call 67; (with_reducible refine (cut_any name _ hs).mono ?_); rintro e w' ⟨rfl, q, rfl⟩; rw [HV.out])
        | (go_at_call 68; (with_reducible refine (tname_any (name.extract 0 j) _ hs1).mono ?_); rintro e w' ⟨rfl, rfl⟩))
      go_ret
      exact ⟨ret_bool HF.out.symm, pw_below_drewN (below_alloc (below_alloc (Below.refl _ _) _) _) _⟩
    cases hb2 : nameB (name.extract (j + 1) name.size)
    · have HF := Aside0.mk (show entB ⟨name, params, pos, base, cells⟩ code.length mem = false by simp [entB, HN.out, hb2])
      go_enter Try.func38, Try.ntmps38
      go_wp2_with (first
        | (go_at_call 67; (with_reducible refine (cut_any name _ hs).mono ?_); rintro e w' ⟨rfl, q, rfl⟩; rw [HV.out])
        | (go_at_call 68; (with_reducible refine (tname_any (name.extract 0 j) _ hs1).mono ?_); rintro e w' ⟨rfl, rfl⟩)
        | (go_at_call 68; (with_reducible refine (tname_any (name.extract (j + 1) name.size) _ hs2).mono ?_); rintro e w' ⟨rfl, rfl⟩))
      go_ret
      exact ⟨ret_bool HF.out.symm, pw_below_drewN (below_alloc (below_alloc (Below.refl _ _) _) _) _⟩
    by_cases h6 : 6 < params.length
    · have HF := Aside0.mk (show entB ⟨name, params, pos, base, cells⟩ code.length mem = false by simp [entB]; omega)
      go_enter Try.func38, Try.ntmps38
      go_wp2_with (first
        | (go_at_call 67; (with_reducible refine (cut_any name _ hs).mono ?_); rintro e w' ⟨rfl, q, rfl⟩; rw [HV.out])
        | (go_at_call 68; (with_reducible refine (tname_any (name.extract 0 j) _ hs1).mono ?_); rintro e w' ⟨rfl, rfl⟩)
        | (go_at_call 68; (with_reducible refine (tname_any (name.extract (j + 1) name.size) _ hs2).mono ?_); rintro e w' ⟨rfl, rfl⟩))
      go_ret
      exact ⟨ret_bool HF.out.symm, pw_below_drewN (below_alloc (below_alloc (Below.refl _ _) _) _) _⟩
    have HS := Aside0.mk (show entB ⟨name, params, pos, base, cells⟩ code.length mem = (params.all lenOk && decide (0 ≤ pos ∧ pos < code.length ∧ 0 ≤ base ∧ base ≤ mem ∧ (wordsN params : Int) + cellsN params ≤ cells ∧ cells ≤ mem - base)) by
      have h6' : params.length ≤ 6 := by omega
      simp [entB, HN.out, hb1, hb2, h6'])
    go_enter Try.func38, Try.ntmps38
    go_wp2_with (first
      | (go_at_call 67; (with_reducible refine (cut_any name _ hs).mono ?_); rintro e w' ⟨rfl, q, rfl⟩; rw [HV.out])
      | (go_at_call 68; (with_reducible refine (tname_any (name.extract 0 j) _ hs1).mono ?_); rintro e w' ⟨rfl, rfl⟩)
      | (go_at_call 68; (with_reducible refine (tname_any (name.extract (j + 1) name.size) _ hs2).mono ?_); rintro e w' ⟨rfl, rfl⟩))
    clear hb1 hb2
    go_loopw [40] (fun v40 wr => ∃ k : Nat, k ≤ params.length ∧ v40 = .int .i64 k ∧ Aside0 ((params.take k).all lenOk = true) ∧ Aside0 (Below (w.heap.size + 2) ((w.alloc (.cells #[.string name, .slice A params.length c, .int .i64 pos, .int .i64 base, .int .i64 cells] 36)).alloc (.cells #[.slice A0 entries.length c0, .slice A1 code.length c1, .int .i64 mem] 31)) wr)) (fun v40 _ => params.length - (intOf v40).toNat)
    case atStart => exact ⟨0, Nat.zero_le _, rfl, ⟨rfl⟩, ⟨pw_below_drewN (Below.refl _ _) _⟩⟩
    case round =>
      obtain ⟨k, hk, rfl, HA, HB⟩ := hrel
      by_cases hlt : k < params.length
      · obtain ⟨t, ad, rfl, ht, h0, h1⟩ := nt_Ty HP.out (box2_below HB.out) k hlt
        have HT := Aside0.mk ht
        clear ht
        obtain ⟨s, len⟩ := t
        simp only at h0 h1
        by_cases ho : 0 ≤ len ∧ len ≤ 16
        · have HN2 := Aside0.mk (all_snoc (f := lenOk) HT.out HA.out (by simp [lenOk, ho]))
          obtain ⟨ho1, ho2⟩ := ho
          go_wp2
          go_roundw
          case rel => exact ⟨k + 1, by omega, by go_num, HN2, ⟨box2_step HB.out (below_alloc (Below.refl _ _) _)⟩⟩
          case measure => simp [intOf]; omega
        · have HN2 := Aside0.mk (all_false (f := lenOk) HT.out (by simp [lenOk]; omega))
          have hx : len < 0 ∨ 16 < len := by omega
          clear ho
          rcases hx with hx | hx
          · go_wp2
            go_ret
            exact ⟨ret_bool (by rw [HS.out, HN2.out, Bool.false_and]), below_alloc (box2_below HB.out) _⟩
          · have hx2 : ¬ len < 0 := by omega
            go_wp2
            go_ret
            exact ⟨ret_bool (by rw [HS.out, HN2.out, Bool.false_and]), below_alloc (box2_below HB.out) _⟩
      · obtain rfl : k = params.length := by omega
        have HT := Aside0.mk (show params.all lenOk = true by have := HA.out; rwa [List.take_length] at this)
        have hlens : LensOk params := ⟨by omega, fun t ht => by have := List.all_eq_true.1 HT.out t ht; simpa [lenOk] using this⟩
        have HL := Aside0.mk hlens
        have hcn := cellsN_bd params hlens.2
        have hwn := wordsN_le params
        have HRr := Aside0.mk (Kd.C_below HP.out (box2_below HB.out))
        have hb1 : wr.cell? ⟨w.heap.size, 1, none⟩ = some (.slice A params.length c) := box2_fst HB.out 1
        clear hlens
        go_upto_region 11 with (go_at_call 34; (with_reducible refine (sizes_any params A c _ HL.out HRr.out).mono ?_); rintro e w2 ⟨rfl, hb2⟩; have HB2 := Aside0.mk (box2_step HB.out hb2); clear hb2; obtain ⟨⟨g1, g2, g3, g4⟩, f1, f2⟩ := HX.out w2 HB2.out)
        by_cases p0 : 0 ≤ pos
        · by_cases p1 : pos < code.length
          · by_cases b0 : 0 ≤ base
            · by_cases b1 : base ≤ mem
              · by_cases c0' : (wordsN params : Int) + cellsN params ≤ cells
                · by_cases c1' : cells ≤ mem - base
                  all_goals
                    go_wp2
                    go_ret
                    exact ⟨ret_bool (by rw [HS.out, HT.out, Bool.true_and]; symm; first | (apply decide_eq_true; omega) | (apply decide_eq_false; omega) | (rw [Bool.eq_iff_iff]; simp only [decide_eq_true_eq]; omega)), box2_below HB2.out⟩
                · go_wp2
                  go_ret
                  exact ⟨ret_bool (by rw [HS.out, HT.out, Bool.true_and]; symm; apply decide_eq_false; omega), box2_below HB2.out⟩
              · go_wp2
                go_ret
                exact ⟨ret_bool (by rw [HS.out, HT.out, Bool.true_and]; symm; apply decide_eq_false; omega), box2_below HB2.out⟩
            · go_wp2
              go_ret
              exact ⟨ret_bool (by rw [HS.out, HT.out, Bool.true_and]; symm; apply decide_eq_false; omega), box2_below HB2.out⟩
          · go_wp2
            go_ret
            exact ⟨ret_bool (by rw [HS.out, HT.out, Bool.true_and]; symm; apply decide_eq_false; omega), box2_below HB2.out⟩
        · go_wp2
          go_ret
          exact ⟨ret_bool (by rw [HS.out, HT.out, Bool.true_and]; symm; apply decide_eq_false; omega), box2_below HB2.out⟩
end Go.Proofs.Ytddnbpgibfmolaa
