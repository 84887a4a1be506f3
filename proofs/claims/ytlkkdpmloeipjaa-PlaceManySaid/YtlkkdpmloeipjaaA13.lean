/- span.Spans. -/
import Derived.Test.YtlkkdpmloeipjaaA12
namespace Go.Proofs.Ytlkkdpmloeipjaa
open Go.RowKit Go.Proofs.YtlkkdpmloeipjaaW.PrintWords
set_option linter.unusedVariables false

theorem scan_zero {c : Code} : ∀ n i, (scan c n i).1 = 0 → i + n = c.l.length → ∀ k x, i ≤ k → c.l[k]? = some x → wrongE c k x = 0 := by
  intro n
  induction n with
  | zero =>
    intro i _ hn k x hk hx
    have := (List.getElem?_eq_some_iff.1 hx).1
    omega
  | succ n ih =>
    intro i h hn k x hk hx
    have hi : i < c.l.length := by omega
    unfold scan at h
    rw [List.getElem?_eq_getElem hi] at h
    simp only at h
    by_cases he : wrongE c i c.l[i] = 0
    · rw [if_pos he] at h
      by_cases hki : k = i
      · subst hki
        rw [List.getElem?_eq_getElem hi] at hx
        injection hx with hx
        rw [← hx]; exact he
      · exact ih (i + 1) h (by omega) k x (by omega) hx
    · rw [if_neg he] at h
      exact absurd h he
theorem right_facts {c : Code} (h : (rightE c).1 = 0) : formB c = true ∧ ∀ k x, c.l[k]? = some x → wrongE c k x = 0 := by
  unfold rightE at h
  by_cases hf : formB c = true
  · rw [if_pos hf] at h
    exact ⟨hf, fun k x hx => scan_zero _ _ h (by omega) k x (Nat.zero_le _) hx⟩
  · rw [if_neg hf] at h
    exact absurd h (by decide)
theorem wrong_kind {c : Code} {k : Nat} {x : Ir} (h : wrongE c k x = 0) : 1 ≤ x.kind ∧ x.kind ≤ 10 := by
  unfold wrongE at h
  by_cases h14 : bad14 x = true
  · rw [if_pos h14] at h; exact absurd h (by decide)
  · simp only [bad14, decide_eq_true_eq] at h14
    omega
theorem wrong_uses {c : Code} {k : Nat} {x : Ir} (h : wrongE c k x = 0) : ∀ r ∈ usesL x, 0 ≤ r ∧ r < c.regs := by
  unfold wrongE at h
  by_cases h14 : bad14 x = true
  · rw [if_pos h14] at h; exact absurd h (by decide)
  rw [if_neg h14] at h
  by_cases h15 : bad15 c x = true
  · rw [if_pos h15] at h; exact absurd h (by decide)
  rw [bad15_uses] at h15
  intro r hr
  have : ¬ (r < 0 ∨ c.regs ≤ r) := fun hh => h15 (List.any_eq_true.2 ⟨r, hr, by simp [outReg, hh]⟩)
  omega

/-- The spans behind the first k instructions. -/
def spansTo (c : Code) : Nat → List Sp
  | 0 => List.replicate c.regs.toNat ⟨-1, -1⟩
  | k + 1 => match c.l[k]? with
    | some x => (usesL x).foldl (touchSp (wordsN c.params : Nat) (k : Nat)) (spansTo c k)
    | none => spansTo c k
def spansE (c : Code) : List Sp := if (rightE c).1 = 0 then spansTo c c.l.length else []
theorem spansTo_length (c : Code) (k : Nat) : (spansTo c k).length = c.regs.toNat := by
  induction k with
  | zero => simp [spansTo]
  | succ k ih =>
    unfold spansTo
    split
    · rw [foldl_length, ih]
    · exact ih
theorem spansTo_succ {c : Code} {k : Nat} {x : Ir} (h : c.l[k]? = some x) : spansTo c (k + 1) = (usesL x).foldl (touchSp (wordsN c.params : Nat) (k : Nat)) (spansTo c k) := by
  conv => lhs; unfold spansTo
  rw [h]

theorem SpRow_of_R {w : World} {base : Nat} {ok : Nat → Prop} {v : Value} {sp : List Sp} (h : kSp.R 26 w base ok v sp) (hv : ∃ b, v.ownBlock = some b) : ∃ g cap, v = .slice (some ⟨g, 0, none⟩) sp.length cap ∧ base ≤ g ∧ SpRow w g sp ∧ sp.length ≤ cap := by
  obtain ⟨A, c, he, hle, hC⟩ := Kd.R_reads h
  obtain ⟨hok, inner, ho, hr⟩ := h
  rcases ho.2 with ⟨rfl, _⟩ | ⟨g, cap, cur, rfl, hb, hh, hnc, hcap, _⟩
  · obtain ⟨b, hb⟩ := hv
    simp [Value.ownBlock] at hb
  · injection he with hA _ hcc
    subst hA
    refine ⟨g, cap, rfl, hb, ⟨⟨cur, hh⟩, fun j s hj => ?_, fun j s hj => ?_, by simp only [maxLen] at hcap; omega⟩, hnc⟩
    all_goals
      have hlt := (List.getElem?_eq_some_iff.1 hj).1
      obtain ⟨x, ad, e, hx, h0, h1⟩ := nt_Sp hC (Below.refl _ _) j hlt
      obtain rfl : x = s := by rw [hj] at hx; exact (Option.some.inj hx).symm
      injection e with e
      subst e
      rw [add_plain] at h0 h1
      first | exact h0 | exact h1

/-- What the walk of Spans keeps: its boxes, and the row. -/
structure SpW (w wr : World) (B b5 g cap : Nat) (cs : Array Value) (sp : List Sp) : Prop where
  below : Below w.heap.size w wr
  base : w.heap.size ≤ g
  box : wr.heap[B]? = some (.cells cs 25 (0, 0))
  h5 : wr.heap[b5]? = some (.cells #[.slice (some ⟨g, 0, none⟩) sp.length cap] 40 (0, 0))
  hg : SpRow wr g sp
section
variable {w wr w1 : World} {B b5 g cap : Nat} {cs : Array Value} {sp sp' : List Sp}
theorem SpW.step (h : SpW w wr B b5 g cap cs sp) (hb : Below wr.heap.size wr w1) : SpW w w1 B b5 g cap cs sp :=
  ⟨below_step h.below hb, h.base, (hb.block _ (blk_lt h.box)).trans h.box, (hb.block _ (blk_lt h.h5)).trans h.h5, h.hg.below hb⟩
theorem SpW.nB (h : SpW w wr B b5 g cap cs sp) : B ≠ g := by obtain ⟨c, hc⟩ := h.hg.blk; exact blk_ne h.box hc (by decide)
theorem SpW.n5 (h : SpW w wr B b5 g cap cs sp) : b5 ≠ g := by obtain ⟨c, hc⟩ := h.hg.blk; exact blk_ne h.h5 hc (by decide)
theorem SpW.grown (h : SpW w wr B b5 g cap cs sp) (hl : sp'.length = sp.length) (hg : wr.grownBy w1 (some g)) (hs : SpRow w1 g sp') : SpW w w1 B b5 g cap cs sp' :=
  ⟨h.below.grown hg h.below.size (fun k hk => by injection hk with hk; subst hk; exact h.base), h.base, (hg.block _ (blk_lt h.box) (by simpa using h.nB)).trans h.box, by rw [hl]; exact (hg.block _ (blk_lt h.h5) (by simpa using h.n5)).trans h.h5, hs⟩
end
theorem SpW.setOther {w wr : World} {B b5 g cap b7 : Nat} {cs c7 : Array Value} {sp : List Sp} (h : SpW w wr B b5 g cap cs sp) (h7 : wr.heap[b7]? = some (.cells c7 3 (0, 0))) (hb : w.heap.size ≤ b7) (v : Value) : SpW w (wr.setCell ⟨b7, 0, none⟩ v) B b5 g cap cs sp := by
  have nB : B ≠ b7 := blk_ne h.box h7 (by decide)
  have n5 : b5 ≠ b7 := blk_ne h.h5 h7 (by decide)
  have ng : g ≠ b7 := by obtain ⟨c, hc⟩ := h.hg.blk; exact blk_ne hc h7 (by decide)
  exact ⟨below_set h.below hb, h.base, (Below.heap_setCell _ _ _ _ nB).trans h.box, (Below.heap_setCell _ _ _ _ n5).trans h.h5, h.hg.same (Below.heap_setCell _ _ _ _ ng)⟩
theorem info26 : (Try.prog.info? 26).map (fun i => (i.zero, i.size, i.bytes)) = some (some (.agg #[.int .i64 0, .int .i64 0]), 2, 16) := by kernel_rfl

/-- The row, its first k elements set to -1, -1. -/
def initSp (n k : Nat) : List Sp := List.replicate k ⟨-1, -1⟩ ++ List.replicate (n - k) zSp
theorem initSp_length {n k : Nat} (h : k ≤ n) : (initSp n k).length = n := by simp [initSp]; omega
theorem initSp_at {n k : Nat} (h : k < n) : (initSp n k)[k]? = some zSp := by
  unfold initSp
  rw [List.getElem?_append_right (by simp)]
  simp [List.getElem?_replicate]; omega
theorem initSp_set {n k : Nat} (h : k < n) : (initSp n k).set k ⟨-1, -1⟩ = initSp n (k + 1) := by
  apply List.ext_getElem?
  intro j
  by_cases e : k = j
  · subst e
    rw [List.getElem?_set_self (by rw [initSp_length (by omega)]; exact h)]
    unfold initSp
    rw [List.getElem?_append_left (by simp)]
    simp
  · rw [List.getElem?_set_ne e]
    unfold initSp
    by_cases hj : j < k
    · rw [List.getElem?_append_left (by simpa using hj), List.getElem?_append_left (by simp; omega)]
      simp [List.getElem?_replicate, hj]; omega
    · rw [List.getElem?_append_right (by simp; omega), List.getElem?_append_right (by simp; omega)]
      simp [List.getElem?_replicate]
      split <;> split <;> first | rfl | omega

/-- A call's result that is a slice of spans, to be read only. -/
def RetSp (w : World) (l : List Sp) (e : Ending) (w' : World) : Prop := ∃ A c, e = .returned (.slice A l.length c) ∧ l.length ≤ c ∧ Kd.C kSp w' A l.length l ∧ Below w.heap.size w w'

set_option maxHeartbeats 8000000 in
set_option maxRecDepth 100000 in
theorem spans_bad (c : Code) (A1 : Option Addr) (c1 : Nat) (A4 : Option Addr) (c4 : Nat) (w : World) (hok : CodeOk c) (hat : CodeAt w c A1 c1 A4 c4) (hb : ¬ (rightE c).1 = 0) :
    Calls Try.prog 23 #[codeV c A1 c1 A4 c4] w (RetSp w (spansE c)) := by
  have HE := Aside0.mk (show spansE c = [] from if_neg hb)
  have HR := Aside0.mk (right_any c A1 c1 A4 c4 _ hok (hat.below (below_alloc (Below.refl _ _) (.cells #[.string c.name, .slice A1 c.params.length c1, .int .i64 c.regs, .int .i64 c.cells, .slice A4 c.l.length c4] 25))))
  have hbb : ((rightE c).1 != 0) = true := bne_iff_ne.2 hb
  clear hok hat hb
  have hu2 := Try.underlying25
  obtain ⟨name, params, regs, cells, l⟩ := c
  simp only [codeV] at *
  generalize rightE ⟨name, params, regs, cells, l⟩ = e at *
  obtain ⟨e1, e2⟩ := e
  simp only at hbb
  go_enter Try.func23, Try.ntmps23
  go_wp2_with (go_at_call 22; (with_reducible refine HR.out.mono ?_); rintro e w1 ⟨rfl, hB1⟩; have HB1 := Aside0.mk hB1; clear hB1)
  go_ret
  rw [HE.out]
  exact ⟨none, 0, rfl, Nat.le_refl _, Kd.C_nil _ _, below_step (below_alloc (Below.refl _ _) _) HB1.out⟩

set_option maxHeartbeats 16000000 in
set_option maxRecDepth 100000 in
theorem spans_ok (c : Code) (A1 : Option Addr) (c1 : Nat) (A4 : Option Addr) (c4 : Nat) (w : World) (hok : CodeOk c) (hat : CodeAt w c A1 c1 A4 c4) (hb : (rightE c).1 = 0) :
    Calls Try.prog 23 #[codeV c A1 c1 A4 c4] w (RetSp w (spansE c)) := by
  have HE := Aside0.mk (show spansE c = spansTo c c.l.length from if_pos hb)
  have HR := Aside0.mk (right_any c A1 c1 A4 c4 _ hok (hat.below (below_alloc (Below.refl _ _) (.cells #[.string c.name, .slice A1 c.params.length c1, .int .i64 c.regs, .int .i64 c.cells, .slice A4 c.l.length c4] 25))))
  obtain ⟨hf, hwr⟩ := right_facts hb
  have hfc := formB_cells hf
  have HWr := Aside0.mk hwr
  have HLe := Aside0.mk hfc.2.2.2.2.1
  have HO := Aside0.mk hok
  have HT := Aside0.mk hat
  have hl3 := hok.len
  have hp6 := hfc.2.2.2.2.2.2.2
  have hw0 := hfc.2.2.1
  have hr1 := hfc.2.2.2.1
  have hwle := wordsN_le c.params
  obtain ⟨n, hn⟩ : ∃ n : Nat, c.regs = n := ⟨c.regs.toNat, by omega⟩
  have hbb : ((rightE c).1 != 0) = false := bne_eq_false_iff_eq.2 hb
  have HS0 := Aside0.mk (show spansTo c 0 = initSp n n by simp [spansTo, initSp, hn])
  clear hok hat hb hf hwr hfc
  have hu2 := Try.underlying25
  have hu3 := Try.underlying78
  obtain ⟨name, params, regs, cells, l⟩ := c
  simp only [codeV] at *
  subst hn
  generalize rightE ⟨name, params, (n : Int), cells, l⟩ = e at *
  obtain ⟨e1, e2⟩ := e
  simp only at hbb
  go_enter Try.func23, Try.ntmps23
  go_wp2_with (first
    | (go_at_call 22; (with_reducible refine HR.out.mono ?_); rintro e w1 ⟨rfl, hB1⟩; have HB1 := Aside0.mk (show Below (w.heap.size + 1) _ w1 from by simpa using hB1); clear hB1; obtain ⟨g0, g1, g2, g3, g4⟩ := code_box1 (c := ⟨name, params, (n : Int), cells, l⟩) HB1.out; simp only at g0 g1 g2 g3 g4)
    | (at_make; refine Kd.R_make kSp (w0 := w1) w1.heap.size 26 rfl rfl 40 (.tmp 20) (.tmp 20) rfl (n : Int) rfl rfl Try.underlying40 (.agg #[.int .i64 0, .int .i64 0]) 16 info26 rfl (by decide) (by decide) zSp (ok := fun _ => True) (okp := fun _ => False) (kSp_mkM _ _ _ zSp) (fun _ h => h.elim) trivial (by omega) (by simp; omega) (Below.refl _ _) (Nat.le_refl _) ?_; intro v1 w3 hR hb3 hg3 hv3; obtain ⟨g, cap, rfl, hgb, hS, hcap⟩ := SpRow_of_R hR ⟨_, hv3.choose_spec.1⟩; have HS := Aside0.mk hS; have HB3 := Aside0.mk hb3; clear hR hb3 hg3 hv3 hS))
  have HW0 := Aside0.mk (show SpW w (w3.alloc (.cells #[.slice (some ⟨g, 0, none⟩) n cap] 40)) w.heap.size w3.heap.size g cap #[.string name, .slice A1 params.length c1, .int .i64 (n : Int), .int .i64 cells, .slice A4 l.length c4] (initSp n 0) from by
    have e0 : initSp n 0 = List.replicate n zSp := by simp [initSp]
    have hbw : Below w.heap.size w w3 := below_step (below_of_box HB1.out) HB3.out
    refine ⟨below_alloc hbw _, by have := HB1.out.size; simp at this; omega, ?_, ?_, ?_⟩
    · refine blk_alloc ?_ _
      have hbx := box_start w (.cells #[.string name, .slice A1 params.length c1, .int .i64 (n : Int), .int .i64 cells, .slice A4 l.length c4] 25)
      exact ((HB1.out.trans (HB3.out.mono (by have := HB1.out.size; simp at this; omega))).block w.heap.size (by omega)).trans (blk_new _ _)
    · rw [initSp_length (Nat.zero_le _)]
      exact blk_new _ _
    · rw [e0]
      have := HS.out
      simp only [Int.toNat_natCast] at this
      exact this.below (below_alloc (Below.refl _ _) _))
  clear g0 g1 g2 g3 g4
  go_loopw [24] (fun v24 wr => ∃ k : Nat, k ≤ n ∧ v24 = .int .i64 k ∧ Aside0 (SpW w wr w.heap.size w3.heap.size g cap #[.string name, .slice A1 params.length c1, .int .i64 (n : Int), .int .i64 cells, .slice A4 l.length c4] (initSp n k))) (fun v24 _ => n - (intOf v24).toNat)
  case atStart => exact ⟨0, Nat.zero_le _, rfl, HW0⟩
  case round =>
    obtain ⟨k, hk, rfl, HW⟩ := hrel
    have q5 : wr.cell? ⟨w3.heap.size, 0, none⟩ = some (.slice (some ⟨g, 0, none⟩) n cap) := (blk_cell HW.out.h5 0).trans (by rw [initSp_length hk]; rfl)
    by_cases hlt : k < n
    · have p0 := HW.out.hg.lo k zSp (initSp_at hlt)
      have p1 := HW.out.hg.hi k zSp (initSp_at hlt)
      have f0 := HW.out.hg.frozen (k * 2)
      have f1 := HW.out.hg.frozen (k * 2 + 1)
      have HN := Aside0.mk (show SpW w ((wr.setCell ⟨g, k * 2, none⟩ (.int .i64 (-1))).setCell ⟨g, k * 2 + 1, none⟩ (.int .i64 (-1))) w.heap.size w3.heap.size g cap #[.string name, .slice A1 params.length c1, .int .i64 (n : Int), .int .i64 cells, .slice A4 l.length c4] (initSp n (k + 1)) from by
        have h1 := HW.out.hg.setLo (initSp_at hlt) (-1)
        have h2 := h1.setHi (r := k) (s := ⟨-1, zSp.hi⟩) (by rw [List.getElem?_set_self (by rw [initSp_length (by omega)]; exact hlt)]) (-1)
        rw [List.set_set, initSp_set hlt] at h2
        exact HW.out.grown (by rw [initSp_length (by omega), initSp_length (by omega)]) ((grownBy_set _ g _ _).trans (grownBy_set _ g _ _)) h2)
      go_wp2
      go_roundw
      case rel => exact ⟨k + 1, by omega, by go_num, HN⟩
      case measure => simp [intOf]; omega
    · obtain rfl : n = k := by omega
      clear q5
      have hq1 : wr.cell? ⟨w.heap.size, 1, none⟩ = some (.slice A1 params.length c1) := blk_cell HW.out.box 1
      have L1 : ∀ o, (wr.alloc o).cell? ⟨w.heap.size, 1, none⟩ = some (.slice A1 params.length c1) := fun o => pw_cell_below (below_alloc (Below.refl _ _) o) hq1
      clear hq1
      generalize wr = wa at *
      have hWs := HW.out.below.size
      have HW1 := Aside0.mk (HW.out.step (below_alloc (Below.refl _ _) (.cells #[.int .i64 0] 3)))
      have HB7 := Aside0.mk (blk_new wa (.cells #[.int .i64 0] 3))
      go_wp2
      go_loopw [35] (fun v35 w4 => ∃ k : Nat, k ≤ params.length ∧ v35 = .int .i64 k ∧ Aside0 (SpW w w4 w.heap.size w3.heap.size g cap #[.string name, .slice A1 params.length c1, .int .i64 (n : Int), .int .i64 cells, .slice A4 l.length c4] (initSp n n)) ∧ Aside0 (w4.heap[wa.heap.size]? = some (.cells #[.int .i64 (wordsN (params.take k) : Nat)] 3 (0, 0)))) (fun v35 _ => params.length - (intOf v35).toNat)
      case atStart => exact ⟨0, Nat.zero_le _, rfl, HW1, HB7⟩
      case round =>
        obtain ⟨k, hk, rfl, HW4, H7⟩ := hrel
        clear L1
        have q7 : ∀ o, (wr.alloc o).cell? ⟨wa.heap.size, 0, none⟩ = some (.int .i64 (wordsN (params.take k) : Nat)) := fun o => blk_cell (blk_alloc H7.out o) 0
        have f7 : ∀ o, (wr.alloc o).frozen? ⟨wa.heap.size, 0, none⟩ = false := fun o => blk_frozen (blk_alloc H7.out o) 0
        have hwk := wordsN_le (params.take k)
        have hwk2 : (params.take k).length ≤ k := List.length_take_le _ _
        by_cases hlt2 : k < params.length
        · obtain ⟨t, ad, rfl, ht, h0, h1⟩ := nt_Ty HT.out.params HW4.out.below k hlt2
          have HWs := Aside0.mk (wordsN_succ ht)
          obtain ⟨s, len⟩ := t
          simp only at h0 h1 HWs
          clear ht
          by_cases hz : len = 0
          · have hzb : (len == 0) = true := by simp [hz]
            have HZ := Aside0.mk hz
            clear hz
            have e1 : ((wordsN (List.take (k + 1) params) : Nat) : Int) = (wordsN (List.take k params) : Nat) + 1 := by rw [HWs.out, if_pos HZ.out]; rfl
            have HE1 := Aside0.mk e1
            clear e1
            go_wp2
            go_roundw
            case rel => exact ⟨k + 1, by omega, by go_num, ⟨(HW4.out.step (below_alloc (Below.refl _ _) _)).setOther (blk_alloc H7.out _) hWs _⟩, ⟨by rw [HE1.out]; exact blk_put (blk_alloc H7.out _) 0 _ rfl⟩⟩
            case measure => simp [intOf]; omega
          · have hzb : (len == 0) = false := by simp [hz]
            go_wp2
            go_roundw
            case rel => exact ⟨k + 1, by omega, by go_num, ⟨HW4.out.step (below_alloc (Below.refl _ _) _)⟩, ⟨by rw [HWs.out, if_neg hz, Nat.add_zero]; exact blk_alloc H7.out _⟩⟩
            case measure => simp [intOf]; omega
        · obtain rfl : params.length = k := by omega
          have q4 : wr.cell? ⟨w.heap.size, 4, none⟩ = some (.slice A4 l.length c4) := blk_cell HW4.out.box 4
          have H7b := Aside0.mk (show wr.heap[wa.heap.size]? = some (.cells #[.int .i64 (wordsN params : Nat)] 3 (0, 0)) from by have := H7.out; rwa [List.take_length] at this)
          clear q7 f7 H7
          generalize wr = wb at *
          go_wp2
          go_loopw [48] (fun v48 w5 => ∃ k : Nat, k ≤ l.length ∧ v48 = .int .i64 k ∧ Aside0 (SpW w w5 w.heap.size w3.heap.size g cap #[.string name, .slice A1 params.length c1, .int .i64 (n : Int), .int .i64 cells, .slice A4 l.length c4] (spansTo ⟨name, params, (n : Int), cells, l⟩ k)) ∧ Aside0 (w5.heap[wa.heap.size]? = some (.cells #[.int .i64 (wordsN params : Nat)] 3 (0, 0)))) (fun v48 _ => l.length - (intOf v48).toNat)
          case atStart => exact ⟨0, Nat.zero_le _, rfl, ⟨by rw [HS0.out]; exact HW4.out⟩, H7b⟩
          case round =>
            obtain ⟨k, hk, rfl, HW5, H7⟩ := hrel
            clear q4
            have hlen := spansTo_length ⟨name, params, (n : Int), cells, l⟩ k
            simp only [Int.toNat_natCast] at hlen
            have HLen := Aside0.mk hlen
            clear hlen
            by_cases hlt3 : k < l.length
            · obtain ⟨x, ad, A8, c8, rfl, hx, h0, h1, h2, h3, h4, h5, h6, h7, h8, hc8, hC8⟩ := nt_Ir HT.out.l (Below.refl _ _) k hlt3
              replace h0 := pw_cell_below HW5.out.below h0
              replace h1 := pw_cell_below HW5.out.below h1
              replace h2 := pw_cell_below HW5.out.below h2
              replace h3 := pw_cell_below HW5.out.below h3
              replace h4 := pw_cell_below HW5.out.below h4
              replace h5 := pw_cell_below HW5.out.below h5
              replace h6 := pw_cell_below HW5.out.below h6
              replace h7 := pw_cell_below HW5.out.below h7
              replace h8 := pw_cell_below HW5.out.below h8
              have HN := Aside0.mk (spansTo_succ (c := ⟨name, params, (n : Int), cells, l⟩) hx)
              have hew := HWr.out k x hx
              have HKd := Aside0.mk (wrong_kind hew)
              have HUs := Aside0.mk (wrong_uses hew)
              have HA20 := Aside0.mk (HO.out.args x (at_mem hx))
              have HC8 := Aside0.mk hC8
              have HG := Aside0.mk (show ∀ ad', A8 = some ad' → 0 < x.args.length → ad'.block ≠ g from fun ad' e hpos => by
                obtain ⟨ad2, r, e2, _, hcell⟩ := nt_scalar HC8.out (Below.refl _ _) 0 hpos
                rw [e] at e2
                injection e2 with e2
                subst e2
                have := World.block_lt_of_cell? w _ hcell
                rw [addr_block] at this
                have := HW5.out.base
                omega)
              clear hx hew hC8
              generalize hsp : spansTo ⟨name, params, (n : Int), cells, l⟩ k = sp at *
              clear hsp
              have HCl := Aside0.mk (show ClW ((wr.alloc (.cells #[.int .i64 (k : Int)] 3)).alloc (.cells #[.int .i64 x.kind, .int .i64 x.op, .int .i64 x.d, .int .i64 x.a, .int .i64 x.b, .int .i64 x.c, .int .u32 x.n, .string x.name, .slice A8 x.args.length c8] 33)) w3.heap.size wa.heap.size wr.heap.size g cap (wordsN params : Nat) (k : Int) sp from
                ⟨blk_alloc (blk_alloc HW5.out.h5 _) _, blk_alloc (blk_alloc H7.out _) _, blk_alloc (blk_new _ _) _, HW5.out.hg.below (below_alloc (below_alloc (Below.refl _ _) _) _)⟩)
              have HBw := Aside0.mk (show Below wr.heap.size wr ((wr.alloc (.cells #[.int .i64 (k : Int)] 3)).alloc (.cells #[.int .i64 x.kind, .int .i64 x.op, .int .i64 x.d, .int .i64 x.a, .int .i64 x.b, .int .i64 x.c, .int .u32 x.n, .string x.name, .slice A8 x.args.length c8] 33)) from below_alloc (below_alloc (Below.refl _ _) _) _)
              have HU := Aside0.mk (uses_any x A8 c8 w3.heap.size wa.heap.size wr.heap.size g cap (wordsN params : Nat) k sp _ HKd.out HCl.out (Kd.C_below HC8.out (below_step HW5.out.below HBw.out)) HA20.out (fun r hr => by have := HUs.out r hr; rw [HLen.out]; exact this) HG.out)
              have HWb := Aside0.mk (HW5.out.step HBw.out)
              obtain ⟨kind, op, d, a, b, cc, nn, nm, args⟩ := x
              simp only [irV] at h0 h1 h2 h3 h4 h5 h6 h7 h8 HU
              go_wp2_with (go_at_call 46; (with_reducible refine HU.out.mono ?_); rintro e w6 ⟨rfl, hC6, hG6⟩; have HC6 := Aside0.mk hC6; have HG6 := Aside0.mk hG6; clear hC6 hG6)
              go_roundw
              case rel => exact ⟨k + 1, by omega, by go_num, ⟨by rw [HN.out]; exact HWb.out.grown (foldl_length _ _ _ _) HG6.out HC6.out.hg⟩, ⟨HC6.out.h7⟩⟩
              case measure => simp [intOf]; omega
            · obtain rfl : l.length = k := by omega
              have q5 : wr.cell? ⟨w3.heap.size, 0, none⟩ = some (.slice (some ⟨g, 0, none⟩) n cap) := (blk_cell HW5.out.h5 0).trans (by rw [HLen.out]; rfl)
              go_wp2
              go_ret
              rw [HE.out]
              refine ⟨some ⟨g, 0, none⟩, cap, ?_, ?_, HW5.out.hg.C, HW5.out.below⟩
              · show Ending.returned (.slice (some ⟨g, 0, none⟩) n cap) = _
                rw [HLen.out]
              · rw [HLen.out]; simpa using hcap
end Go.Proofs.Ytlkkdpmloeipjaa
