/- irun.Right. -/
import Derived.Test.YtlkkdpmloeipjaaA9
namespace Go.Proofs.Ytlkkdpmloeipjaa
open Go.RowKit Go.Proofs.YtlkkdpmloeipjaaW.PrintWords
set_option linter.unusedVariables false

/-- What is wrong first, from the i-th instruction on. -/
def scan (c : Code) : Nat → Nat → Int × Int
  | 0, _ => (0, -1)
  | n + 1, i => match c.l[i]? with
    | none => (0, -1)
    | some x => if wrongE c i x = 0 then scan c n (i + 1) else (wrongE c i x, i)
def rightE (c : Code) : Int × Int := if formB c = true then scan c c.l.length 0 else (6, -1)

theorem scan_ok {c : Code} {k : Nat} {x : Ir} (h : c.l[k]? = some x) (he : wrongE c k x = 0) : scan c (c.l.length - k) k = scan c (c.l.length - (k + 1)) (k + 1) := by
  have hk := (List.getElem?_eq_some_iff.1 h).1
  obtain ⟨n, hn⟩ : ∃ n, c.l.length - k = n + 1 := ⟨c.l.length - k - 1, by omega⟩
  rw [hn, show c.l.length - (k + 1) = n by omega]
  conv => lhs; unfold scan
  rw [h]; simp only; rw [if_pos he]
theorem scan_bad {c : Code} {k : Nat} {x : Ir} (h : c.l[k]? = some x) (he : ¬ wrongE c k x = 0) : scan c (c.l.length - k) k = (wrongE c k x, (k : Int)) := by
  have hk := (List.getElem?_eq_some_iff.1 h).1
  obtain ⟨n, hn⟩ : ∃ n, c.l.length - k = n + 1 := ⟨c.l.length - k - 1, by omega⟩
  rw [hn]
  unfold scan
  rw [h]; simp only; rw [if_neg he]

/-- What Right's walks ask of a function's memory. -/
structure CodeAt (w : World) (c : Code) (A1 : Option Addr) (c1 : Nat) (A4 : Option Addr) (c4 : Nat) : Prop where
  params : Kd.C kTy w A1 c.params.length c.params
  pcap : c.params.length ≤ c1
  l : Kd.C kIr w A4 c.l.length c.l
  lcap : c.l.length ≤ c4
theorem CodeAt.below {w w1 : World} {c : Code} {A1 A4 : Option Addr} {c1 c4 : Nat} (h : CodeAt w c A1 c1 A4 c4) (hb : Below w.heap.size w w1) : CodeAt w1 c A1 c1 A4 c4 :=
  ⟨Kd.C_below h.params hb, h.pcap, Kd.C_below h.l hb, h.lcap⟩

theorem formB_cells {c : Code} (h : formB c = true) : 0 ≤ c.cells ∧ c.cells ≤ 4096 ∧ (wordsN c.params : Int) ≤ c.regs ∧ c.regs ≤ 10000 ∧ LensOk c.params ∧ cellsN c.params ≤ c.cells ∧ 1 ≤ c.l.length ∧ c.params.length ≤ 6 := by
  simp only [formB, Bool.and_eq_true, decide_eq_true_eq] at h
  obtain ⟨⟨⟨_, h6⟩, hl⟩, h1, h2, h3, h4, h5, _⟩ := h
  have hlens : ∀ t ∈ c.params, 0 ≤ t.len ∧ t.len ≤ 16 := fun t ht => by have := List.all_eq_true.1 hl t ht; simpa [lenOk] using this
  have := cellsN_bd c.params hlens
  exact ⟨by omega, h4, h1, h2, ⟨by omega, hlens⟩, h3, h5, h6⟩

theorem wrong_any (c : Code) (A1 : Option Addr) (c1 : Nat) (A4 : Option Addr) (c4 : Nat) (i : Nat) (x : Ir) (w : World) (hx : c.l[i]? = some x) (hok : CodeOk c) (hf : formB c = true) (hr : Kd.C kIr w A4 c.l.length c.l) :
    Calls Try.prog 45 #[codeV c A1 c1 A4 c4, .int .i64 i] w fun e w' => e = .returned (.int .i64 (wrongE c i x)) ∧ Below w.heap.size w w' := by
  have hm := at_mem hx
  cases h14 : bad14 x with
  | true =>
    have : wrongE c i x = 14 := by unfold wrongE; rw [if_pos h14]
    rw [this]
    exact wrong_14 c A1 c1 A4 c4 i x w hx (hok.names x hm) hr h14
  | false => exact wrong_on c A1 c1 A4 c4 i x w hx (hok.names x hm) hok.len (hok.args x hm) (hok.n x hm) (formB_cells hf).1 hok.cells hr h14

theorem code_box1 {w wr : World} {c : Code} {A1 A4 : Option Addr} {c1 c4 : Nat} (h : Below (w.heap.size + 1) (w.alloc (.cells #[.string c.name, .slice A1 c.params.length c1, .int .i64 c.regs, .int .i64 c.cells, .slice A4 c.l.length c4] 25 (0, 0))) wr) :
    wr.cell? ⟨w.heap.size, 0, none⟩ = some (.string c.name) ∧ wr.cell? ⟨w.heap.size, 1, none⟩ = some (.slice A1 c.params.length c1) ∧ wr.cell? ⟨w.heap.size, 2, none⟩ = some (.int .i64 c.regs) ∧ wr.cell? ⟨w.heap.size, 3, none⟩ = some (.int .i64 c.cells) ∧ wr.cell? ⟨w.heap.size, 4, none⟩ = some (.slice A4 c.l.length c4) :=
  ⟨box_cells h 0, box_cells h 1, box_cells h 2, box_cells h 3, box_cells h 4⟩
theorem box_step {w wr w2 : World} {o : Go.Obj} (h : Below (w.heap.size + 1) (w.alloc o) wr) (h2 : Below wr.heap.size wr w2) : Below (w.heap.size + 1) (w.alloc o) w2 :=
  h.trans (h2.mono (by have := h.size; rw [World.size_alloc] at this; exact this))

set_option maxHeartbeats 4000000 in
set_option maxRecDepth 100000 in
theorem right_any (c : Code) (A1 : Option Addr) (c1 : Nat) (A4 : Option Addr) (c4 : Nat) (w : World) (hok : CodeOk c) (hat : CodeAt w c A1 c1 A4 c4) :
    Calls Try.prog 22 #[codeV c A1 c1 A4 c4] w fun e w' => e = .returned (.tuple #[.int .i64 (rightE c).1, .int .i64 (rightE c).2]) ∧ Below w.heap.size w w' := by
  have HO := Aside0.mk hok
  have HT := Aside0.mk hat
  have hl3 := hok.len
  clear hok hat
  obtain ⟨name, params, regs, cells, l⟩ := c
  simp only at hl3
  have hu2 := Try.underlying25
  have hF := fun w' (hb : Below w.heap.size w w') => form_any ⟨name, params, regs, cells, l⟩ A1 c1 A4 c4 w' HO.out (HT.out.below hb).params
  have HF := Aside0.mk hF
  clear hF
  cases hf : formB ⟨name, params, regs, cells, l⟩
  · have HR := Aside0.mk (show rightE ⟨name, params, regs, cells, l⟩ = (6, -1) by rw [rightE, hf]; rfl)
    simp only [codeV] at *
    go_enter Try.func22, Try.ntmps22
    go_wp2_with (go_at_call 44; (with_reducible refine (HF.out _ (below_alloc (Below.refl _ _) _)).mono ?_); rintro e w1 ⟨rfl, hB1⟩; have HB1 := Aside0.mk hB1; clear hB1)
    go_ret2
    exact ⟨ret_int2 (by rw [HR.out]) (by rw [HR.out]), below_step (below_alloc (Below.refl _ _) _) HB1.out⟩
  · have HR := Aside0.mk (show rightE ⟨name, params, regs, cells, l⟩ = scan ⟨name, params, regs, cells, l⟩ l.length 0 by rw [rightE, if_pos hf])
    have HFt := Aside0.mk hf
    simp only [codeV] at *
    go_enter Try.func22, Try.ntmps22
    go_wp2_with (go_at_call 44; (with_reducible refine (HF.out _ (below_alloc (Below.refl _ _) _)).mono ?_); rintro e w1 ⟨rfl, hB1⟩; have HB1 := Aside0.mk (show Below (w.heap.size + 1) _ w1 from by simpa using hB1); clear hB1; obtain ⟨g0, g1, g2, g3, g4⟩ := code_box1 (c := ⟨name, params, regs, cells, l⟩) HB1.out; simp only at g0 g1 g2 g3 g4)
    go_loopw [12] (fun v12 wr => ∃ k : Nat, k ≤ l.length ∧ v12 = .int .i64 k ∧ Aside0 (scan ⟨name, params, regs, cells, l⟩ l.length 0 = scan ⟨name, params, regs, cells, l⟩ (l.length - k) k) ∧ Aside0 (Below (w.heap.size + 1) (w.alloc (.cells #[.string name, .slice A1 params.length c1, .int .i64 regs, .int .i64 cells, .slice A4 l.length c4] 25)) wr)) (fun v12 _ => l.length - (intOf v12).toNat)
    case atStart => exact ⟨0, Nat.zero_le _, rfl, ⟨rfl⟩, HB1⟩
    case round =>
      clear g0 g1 g2 g3 g4
      obtain ⟨k, hk, rfl, HA, HB⟩ := hrel
      obtain ⟨g0, g1, g2, g3, g4⟩ := code_box1 (c := ⟨name, params, regs, cells, l⟩) HB.out
      simp only at g0 g1 g2 g3 g4
      by_cases hlt : k < l.length
      · obtain ⟨x, hx⟩ : ∃ x, l[k]? = some x := ⟨_, List.getElem?_eq_getElem hlt⟩
        have HX := Aside0.mk hx
        clear hx
        have HC := Aside0.mk (wrong_any ⟨name, params, regs, cells, l⟩ A1 c1 A4 c4 k x wr HX.out HO.out HFt.out (HT.out.below (below_of_box HB.out)).l)
        simp only [codeV] at HC
        by_cases he : wrongE ⟨name, params, regs, cells, l⟩ k x = 0
        · have HN := Aside0.mk (HA.out.trans (scan_ok HX.out he))
          rw [he] at HC
          clear he
          go_wp2_with (go_at_call 45; (with_reducible refine HC.out.mono ?_); rintro e w2 ⟨rfl, hB2⟩; have HB2 := Aside0.mk (box_step HB.out hB2); clear hB2)
          go_roundw
          case rel => exact ⟨k + 1, by omega, by go_num, HN, HB2⟩
          case measure => simp [intOf]; omega
        · have HN := Aside0.mk (HR.out.trans (HA.out.trans (scan_bad HX.out he)))
          have heb : (wrongE ⟨name, params, regs, cells, l⟩ k x != 0) = true := bne_iff_ne.2 he
          clear he
          generalize wrongE ⟨name, params, regs, cells, l⟩ k x = ev at *
          go_wp2_with (go_at_call 45; (with_reducible refine HC.out.mono ?_); rintro e w2 ⟨rfl, hB2⟩; have HB2 := Aside0.mk (box_step HB.out hB2); clear hB2)
          go_ret2
          exact ⟨ret_int2 (by rw [HN.out]) (by rw [HN.out]), below_of_box HB2.out⟩
      · obtain rfl : k = l.length := by omega
        have HN := Aside0.mk (show rightE ⟨name, params, regs, cells, l⟩ = (0, -1) by rw [HR.out, HA.out, Nat.sub_self]; rfl)
        go_wp2
        go_ret2
        exact ⟨ret_int2 (by rw [HN.out]) (by rw [HN.out]), below_of_box HB.out⟩
end Go.Proofs.Ytlkkdpmloeipjaa
