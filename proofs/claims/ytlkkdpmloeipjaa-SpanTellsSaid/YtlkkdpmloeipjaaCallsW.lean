/- carlinglaw11.SpanCalls: the walk. -/
import Derived.Test.YtlkkdpmloeipjaaQ0
namespace Go.Proofs.Ytlkkdpmloeipjaa
open Go.RowKit Go.Proofs.YtlkkdpmloeipjaaW.PrintWords
set_option linter.unusedVariables false

theorem callsB_iff (c : Code) (s : Sp) : callsB c s = true ↔ ∃ (i : Nat) (x : Ir), c.l[i]? = some x ∧ x.kind = 7 ∧ s.lo < i ∧ (i : Int) < s.hi := by
  simp only [callsB, callsTo, List.any_eq_true, List.mem_range]
  constructor
  · rintro ⟨i, hi, h⟩
    rw [List.getElem?_eq_getElem hi] at h
    simp only [callAt, decide_eq_true_eq] at h
    exact ⟨i, _, List.getElem?_eq_getElem hi, h⟩
  · rintro ⟨i, x, hx, h⟩
    refine ⟨i, (List.getElem?_eq_some_iff.1 hx).1, ?_⟩
    rw [hx]
    simpa [callAt] using h
/-- Is there a call at the place? -/
def hereB (c : Code) (at_ : Int) : Bool := decide (0 ≤ at_ ∧ ∃ x, c.l[at_.toNat]? = some x ∧ x.kind = 7)
theorem calls_part (c : Code) (lo hi m : Int) (h1 : lo < m) (h2 : m < hi) : callsB c ⟨lo, hi⟩ = (callsB c ⟨lo, m⟩ || (hereB c m || callsB c ⟨m, hi⟩)) := by
  rw [Bool.eq_iff_iff]
  simp only [Bool.or_eq_true, callsB_iff, hereB, decide_eq_true_eq]
  constructor
  · rintro ⟨i, x, hx, hk, ha, hb⟩
    by_cases e1 : (i : Int) < m
    · exact .inl ⟨i, x, hx, hk, ha, e1⟩
    · by_cases e2 : (i : Int) = m
      · refine .inr (.inl ⟨by omega, x, ?_, hk⟩)
        rw [show m.toNat = i by omega]; exact hx
      · exact .inr (.inr ⟨i, x, hx, hk, by show m < i; omega, hb⟩)
  · rintro (⟨i, x, hx, hk, ha, hb⟩ | ⟨h0, x, hx, hk⟩ | ⟨i, x, hx, hk, ha, hb⟩)
    · exact ⟨i, x, hx, hk, ha, by have : (i : Int) < m := hb; show (i : Int) < hi; omega⟩
    · exact ⟨m.toNat, x, hx, hk, by show lo < ((m.toNat : Nat) : Int); omega, by show ((m.toNat : Nat) : Int) < hi; omega⟩
    · exact ⟨i, x, hx, hk, by have : m < (i : Int) := ha; show lo < (i : Int); omega, hb⟩

theorem hereB_at {c : Code} {k : Nat} {x : Ir} (h : c.l[k]? = some x) : hereB c (k : Int) = decide (x.kind = 7) := by
  rw [Bool.eq_iff_iff]
  simp only [hereB, decide_eq_true_eq, Int.toNat_natCast, h]
  constructor
  · rintro ⟨_, y, hy, h7⟩
    obtain rfl := Option.some.inj hy
    exact h7
  · intro h7
    exact ⟨by omega, x, rfl, h7⟩
theorem cs_boxes {w w' : World} {c : Code} {s : Sp} {A1 A4 : Option Addr} {c1 c4 : Nat} (h : Below (w.heap.size + 2) ((w.alloc (.cells #[.string c.name, .slice A1 c.params.length c1, .int .i64 c.regs, .int .i64 c.cells, .slice A4 c.l.length c4] 25 (0, 0))).alloc (.cells #[.int .i64 s.lo, .int .i64 s.hi] 26 (0, 0))) w') :
    Below (w.heap.size + 2) ((w.alloc (.cells #[.string c.name, .slice A1 c.params.length c1, .int .i64 c.regs, .int .i64 c.cells, .slice A4 c.l.length c4] 25 (0, 0))).alloc (.cells #[.int .i64 s.lo, .int .i64 s.hi] 26 (0, 0))) w' ∧
    w'.cell? ⟨w.heap.size, 0, none⟩ = some (.string c.name) ∧ w'.cell? ⟨w.heap.size, 1, none⟩ = some (.slice A1 c.params.length c1) ∧ w'.cell? ⟨w.heap.size, 2, none⟩ = some (.int .i64 c.regs) ∧ w'.cell? ⟨w.heap.size, 3, none⟩ = some (.int .i64 c.cells) ∧ w'.cell? ⟨w.heap.size, 4, none⟩ = some (.slice A4 c.l.length c4) ∧
    w'.cell? ⟨w.heap.size + 1, 0, none⟩ = some (.int .i64 s.lo) ∧ w'.cell? ⟨w.heap.size + 1, 1, none⟩ = some (.int .i64 s.hi) :=
  ⟨h, box2_fst h 0, box2_fst h 1, box2_fst h 2, box2_fst h 3, box2_fst h 4, box2_snd h 0, box2_snd h 1⟩

set_option maxHeartbeats 8000000 in
set_option maxRecDepth 100000 in
theorem calls_walk (c : Code) (A1 : Option Addr) (c1 : Nat) (A4 : Option Addr) (c4 : Nat) (w : World) (hat : CodeAt w c A1 c1 A4 c4) (hwf : WfCode c) (s : Sp) (at_ : Int) :
    Calls Try.prog 3 #[codeV c A1 c1 A4 c4, spV s, .int .i64 at_] w fun e w' => e = .returned (.bool true) ∧ Below w.heap.size w w' := by
  have HT := Aside0.mk hat
  have HW := Aside0.mk hwf
  have HL := Aside0.mk (fun W hb => light_lit c A1 c1 A4 c4 w W hat hb)
  clear hat hwf
  have hu2 := Try.underlying25
  have hu3 := Try.underlying33
  cases hl : lightC c
  · rw [hl] at HL
    obtain ⟨name, params, regs, cells, l⟩ := c
    obtain ⟨lo, hi⟩ := s
    simp only [codeV, spV] at *
    go_enter Try.func3, Try.ntmps3
    go_wp2_with (first
      | (go_at_call 17; (with_reducible refine (awake_any _).mono ?_); rintro e w1 ⟨rfl, hB1⟩; have HB1 := Aside0.mk (box2_of hB1); clear hB1; obtain ⟨_, g0, g1, g2, g3, g4, g5, g6⟩ := cs_boxes (c := ⟨name, params, regs, cells, l⟩) (s := ⟨lo, hi⟩) HB1.out; simp only at g0 g1 g2 g3 g4 g5 g6)
      | (go_at_call 18; (with_reducible refine (HL.out w1 (box2_below HB1.out)).mono ?_); rintro e w2 ⟨rfl, hB2⟩; have HB2 := Aside0.mk (box2_step HB1.out hB2); clear hB2))
    go_ret
    exact ⟨rfl, box2_below HB2.out⟩
  · rw [hl] at HL
    have HO := Aside0.mk (codeOk_of HW.out hl)
    clear hl
    have HC := Aside0.mk (fun W (hb : Below w.heap.size w W) (s : Sp) => calls_any c s A1 c1 A4 c4 W HO.out.len (HT.out.below hb).l)
    have HP := Aside0.mk (calls_part c s.lo s.hi at_)
    obtain ⟨name, params, regs, cells, l⟩ := c
    obtain ⟨lo, hi⟩ := s
    simp only [codeV, spV] at *
    by_cases q1 : at_ ≤ lo
    · go_enter Try.func3, Try.ntmps3
      go_wp2_with (first
        | (go_at_call 17; (with_reducible refine (awake_any _).mono ?_); rintro e w1 ⟨rfl, hB1⟩; have HB1 := Aside0.mk (box2_of hB1); clear hB1; obtain ⟨_, g0, g1, g2, g3, g4, g5, g6⟩ := cs_boxes (c := ⟨name, params, regs, cells, l⟩) (s := ⟨lo, hi⟩) HB1.out; simp only at g0 g1 g2 g3 g4 g5 g6)
        | (go_at_call 18; (with_reducible refine (HL.out w1 (box2_below HB1.out)).mono ?_); rintro e w2 ⟨rfl, hB2⟩; have HB2 := Aside0.mk (box2_step HB1.out hB2); clear hB2 g0 g1 g2 g3 g4 g5 g6; obtain ⟨_, g0, g1, g2, g3, g4, g5, g6⟩ := cs_boxes (c := ⟨name, params, regs, cells, l⟩) (s := ⟨lo, hi⟩) HB2.out; simp only at g0 g1 g2 g3 g4 g5 g6))
      go_ret
      exact ⟨rfl, box2_below HB2.out⟩
    by_cases q2 : hi ≤ at_
    · go_enter Try.func3, Try.ntmps3
      go_wp2_with (first
        | (go_at_call 17; (with_reducible refine (awake_any _).mono ?_); rintro e w1 ⟨rfl, hB1⟩; have HB1 := Aside0.mk (box2_of hB1); clear hB1; obtain ⟨_, g0, g1, g2, g3, g4, g5, g6⟩ := cs_boxes (c := ⟨name, params, regs, cells, l⟩) (s := ⟨lo, hi⟩) HB1.out; simp only at g0 g1 g2 g3 g4 g5 g6)
        | (go_at_call 18; (with_reducible refine (HL.out w1 (box2_below HB1.out)).mono ?_); rintro e w2 ⟨rfl, hB2⟩; have HB2 := Aside0.mk (box2_step HB1.out hB2); clear hB2 g0 g1 g2 g3 g4 g5 g6; obtain ⟨_, g0, g1, g2, g3, g4, g5, g6⟩ := cs_boxes (c := ⟨name, params, regs, cells, l⟩) (s := ⟨lo, hi⟩) HB2.out; simp only at g0 g1 g2 g3 g4 g5 g6))
      go_ret
      exact ⟨rfl, box2_below HB2.out⟩
    have HPe := Aside0.mk (HP.out (by omega) (by omega))
    clear HP
    go_enter Try.func3, Try.ntmps3
    go_upto_region 5 with (first
      | (go_at_call 17; (with_reducible refine (awake_any _).mono ?_); rintro e w1 ⟨rfl, hB1⟩; have HB1 := Aside0.mk (box2_of hB1); clear hB1; obtain ⟨_, g0, g1, g2, g3, g4, g5, g6⟩ := cs_boxes (c := ⟨name, params, regs, cells, l⟩) (s := ⟨lo, hi⟩) HB1.out; simp only at g0 g1 g2 g3 g4 g5 g6)
      | (go_at_call 18; (with_reducible refine (HL.out w1 (box2_below HB1.out)).mono ?_); rintro e w2 ⟨rfl, hB2⟩; have HB2 := Aside0.mk (box2_step HB1.out hB2); clear hB2 g0 g1 g2 g3 g4 g5 g6; obtain ⟨_, g0, g1, g2, g3, g4, g5, g6⟩ := cs_boxes (c := ⟨name, params, regs, cells, l⟩) (s := ⟨lo, hi⟩) HB2.out; simp only at g0 g1 g2 g3 g4 g5 g6))
    go_cut [9] (fun v9 wc => v9 = .bool (hereB ⟨name, params, regs, cells, l⟩ at_) ∧ wc = w2)
    case first =>
      by_cases n0 : 0 ≤ at_
      · by_cases n1 : at_ < l.length
        · obtain ⟨k, rfl⟩ := Int.eq_ofNat_of_zero_le n0
          have hk : k < l.length := by omega
          obtain ⟨x, ad, A8, c8, rfl, hx, e0, _⟩ := nt_Ir HT.out.l (box2_below HB2.out) k hk
          have hh := Aside0.mk (hereB_at hx)
          clear hx
          by_cases k7 : x.kind = 7
          · have k7b : (x.kind == 7) = true := beq_iff_eq.2 k7
            have hh2 := Aside0.mk (hh.out.trans (decide_eq_true k7))
            clear k7
            go_wp2
            go_meet
            case rel => exact ⟨by rw [hh2.out], rfl⟩
          · have k7b : (x.kind == 7) = false := beq_eq_false_iff_ne.2 k7
            have hh2 := Aside0.mk (hh.out.trans (decide_eq_false k7))
            clear k7
            go_wp2
            go_meet
            case rel => exact ⟨by rw [hh2.out], rfl⟩
        · have hh := Aside0.mk (show hereB ⟨name, params, regs, cells, l⟩ at_ = false by
            simp only [hereB, decide_eq_false_iff_not]
            rintro ⟨_, x, hx, _⟩
            have := (List.getElem?_eq_some_iff.1 hx).1
            omega)
          go_wp2
          go_meet
          case rel => exact ⟨by rw [hh.out], rfl⟩
      · have hh := Aside0.mk (show hereB ⟨name, params, regs, cells, l⟩ at_ = false by
          simp only [hereB, decide_eq_false_iff_not]
          rintro ⟨h, _⟩
          exact n0 h)
        go_wp2
        go_meet
        case rel => exact ⟨by rw [hh.out], rfl⟩
    case rest =>
      obtain ⟨rfl, rfl⟩ := hcut
      have HPf := HPe.out
      clear HPe g0 g1 g2 g3 g4 g5 g6
      have HB3 := Aside0.mk (below_drew1 HB2.out)
      have HF := Aside0.mk (fun W (h : Below (w.heap.size + 2) ((w.alloc (.cells #[.string name, .slice A1 params.length c1, .int .i64 regs, .int .i64 cells, .slice A4 l.length c4] 25)).alloc (.cells #[.int .i64 lo, .int .i64 hi] 26)) W) => cs_boxes (c := ⟨name, params, regs, cells, l⟩) (s := ⟨lo, hi⟩) h)
      try simp only at HPf
      generalize hereB ⟨name, params, regs, cells, l⟩ at_ = hz at *
      have K1 := Aside0.mk (fun W hb => HC.out W hb ⟨lo, hi⟩)
      have K2 := Aside0.mk (fun W hb => HC.out W hb ⟨lo, at_⟩)
      have K3 := Aside0.mk (fun W hb => HC.out W hb ⟨at_, hi⟩)
      clear HC
      rw [HPf] at K1
      clear HPf
      generalize callsB ⟨name, params, regs, cells, l⟩ ⟨lo, at_⟩ = b1 at *
      generalize callsB ⟨name, params, regs, cells, l⟩ ⟨at_, hi⟩ = b2 at *
      have fin : ∀ b : Bool, (b == b) = true := by decide
      cases b1 <;> cases hz <;> cases b2
      all_goals
        simp only [Bool.false_or, Bool.true_or, Bool.or_true, Bool.or_false] at K1
        go_wp2
        refine wp_region_class (S := Below (w.heap.size + 2) _) (by kernel_rfl) (by kernel_rfl) HB3.out ?_
        intro T f hTn hT0
        have hT := Aside0.mk hT0
        have f0 := fun n => (HF.out _ (class_mem hT0 n)).2.1
        have f1 := fun n => (HF.out _ (class_mem hT0 n)).2.2.1
        have f2 := fun n => (HF.out _ (class_mem hT0 n)).2.2.2.1
        have f3 := fun n => (HF.out _ (class_mem hT0 n)).2.2.2.2.1
        have f4 := fun n => (HF.out _ (class_mem hT0 n)).2.2.2.2.2.1
        have f5 := fun n => (HF.out _ (class_mem hT0 n)).2.2.2.2.2.2.1
        have f6 := fun n => (HF.out _ (class_mem hT0 n)).2.2.2.2.2.2.2
        clear hT0
        repeat (go_big_quiet_step (first
          | (go_at_call 19; (with_reducible refine class_call hT.out (K1.out _ ?_) ?_); exact (box2_below (class_mem hT.out _)); exact (fun _ h => box2_step (class_mem hT.out _) h))
          | (go_at_call 19; (with_reducible refine class_call hT.out (K2.out _ ?_) ?_); exact (box2_below (class_mem hT.out _)); exact (fun _ h => box2_step (class_mem hT.out _) h))
          | (go_at_call 19; (with_reducible refine class_call hT.out (K3.out _ ?_) ?_); exact (box2_below (class_mem hT.out _)); exact (fun _ h => box2_step (class_mem hT.out _) h))))
        refine wpQuiet_nil ?_
        intro w5 hw5
        have HB5 := Aside0.mk ((hT.out _).2 hw5)
        clear hw5 f0 f1 f2 f3 f4 f5 f6 hT
        go_wp2
        go_ret
        exact ⟨rfl, box2_below HB5.out⟩
theorem calls_row (c : Code) (A1 : Option Addr) (c1 : Nat) (A4 : Option Addr) (c4 : Nat) {W : World} (hat : CodeAt W c A1 c1 A4 c4) (hwf : WfCode c) (s : Sp) (_ : (Lit.int .i64 s.lo).wf = true) (_ : (Lit.int .i64 s.hi).wf = true)
    (n : Int) (_ : (Lit.int .i64 n).wf = true) (_ : World) : Calls Try.prog 3 #[codeV c A1 c1 A4 c4, spV s, .int .i64 n] W fun e w' => e = .returned (.bool true) ∧ Below W.heap.size W w' :=
  calls_walk c A1 c1 A4 c4 W hat hwf s n
end Go.Proofs.Ytlkkdpmloeipjaa
