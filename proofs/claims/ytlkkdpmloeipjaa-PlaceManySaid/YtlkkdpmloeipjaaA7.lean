/- irun.form; carlingref07.Words. -/
import Derived.Test.YtlkkdpmloeipjaaA6
namespace Go.Proofs.Ytlkkdpmloeipjaa
open Go.RowKit Go.Proofs.YtlkkdpmloeipjaaW.PrintWords
set_option linter.unusedVariables false

/-- What carlingref07.Light says of a function, and what its numbers' kinds say. -/
structure CodeOk (c : Code) : Prop where
  name : c.name.size ≤ 100
  params : c.params.length ≤ 20
  len : c.l.length ≤ 3000
  regs : c.regs ≤ 20000
  cells : c.cells ≤ 20000
  names : ∀ x ∈ c.l, x.name.size ≤ 100
  args : ∀ x ∈ c.l, x.args.length ≤ 20
  n : ∀ x ∈ c.l, 0 ≤ x.n ∧ x.n < 4294967296
def lenOk (t : Ty) : Bool := decide (0 ≤ t.len ∧ t.len ≤ 16)
def formB (c : Code) : Bool := namedB c.name && decide (c.params.length ≤ 6) && c.params.all lenOk &&
  decide ((wordsN c.params : Int) ≤ c.regs ∧ c.regs ≤ 10000 ∧ cellsN c.params ≤ c.cells ∧ c.cells ≤ 4096 ∧ 1 ≤ c.l.length ∧ c.l.length ≤ 10000)

/-- A function's value, as it is handed on. -/
abbrev codeV (c : Code) (A1 : Option Addr) (c1 : Nat) (A4 : Option Addr) (c4 : Nat) : Value := .agg #[.string c.name, .slice A1 c.params.length c1, .int .i64 c.regs, .int .i64 c.cells, .slice A4 c.l.length c4]

theorem box_cells {w wr : World} {cs : Array Value} {t : TypeId} (h : Below (w.heap.size + 1) (w.alloc (.cells cs t (0, 0))) wr) (i : Nat) : wr.cell? ⟨w.heap.size, i, none⟩ = cs[i]? :=
  (h.cell (p := ⟨w.heap.size, i, none⟩) (Nat.lt_succ_self _)).trans (blk_cell (blk_new _ _) i)
theorem below_of_box {w wr : World} {o : Go.Obj} (h : Below (w.heap.size + 1) (w.alloc o) wr) : Below w.heap.size w wr :=
  (below_alloc (Below.refl _ _) o).trans (h.mono (by omega))
theorem box_start (w : World) (o : Go.Obj) : Below (w.heap.size + 1) (w.alloc o) (w.alloc o) := Below.refl _ _
theorem box_alloc {w wr : World} {o o' : Go.Obj} (h : Below (w.heap.size + 1) (w.alloc o) wr) : Below (w.heap.size + 1) (w.alloc o) (wr.alloc o') := h.alloc (by have := h.size; rw [World.size_alloc] at this; exact this) o'

theorem all_snoc {α : Type} {f : α → Bool} {xs : List α} {k : Nat} {x : α} (h : xs[k]? = some x) (ha : (xs.take k).all f = true) (hx : f x = true) : (xs.take (k + 1)).all f = true := by
  rw [take_snoc_at h, List.all_append, ha]; simp [hx]
theorem all_false {α : Type} {f : α → Bool} {xs : List α} {k : Nat} {x : α} (h : xs[k]? = some x) (hx : f x = false) : xs.all f = false := by
  rw [List.all_eq_false]; exact ⟨x, at_mem h, by simp [hx]⟩

set_option maxHeartbeats 4000000 in
set_option maxRecDepth 100000 in
theorem form_any (c : Code) (A1 : Option Addr) (c1 : Nat) (A4 : Option Addr) (c4 : Nat) (w : World) (hok : CodeOk c) (hr : Kd.C kTy w A1 c.params.length c.params) :
    Calls Try.prog 44 #[codeV c A1 c1 A4 c4] w fun e w' => e = .returned (.bool (formB c)) ∧ Below w.heap.size w w' := by
  obtain ⟨name, params, regs, cells, l⟩ := c
  simp only [codeV] at hr ⊢
  have HR := Aside0.mk hr
  have hs : name.size ≤ 140737488351232 := by have := hok.name; simp only at this; omega
  have hp20 := hok.params
  have hl3 := hok.len
  simp only at hp20 hl3
  clear hr hok
  have hu := Try.underlying78
  have hu2 := Try.underlying25
  cases hb : namedB name
  · have HF := Aside0.mk (show formB ⟨name, params, regs, cells, l⟩ = false by simp [formB, hb])
    go_enter Try.func44, Try.ntmps44
    go_wp2_with (go_at_call 68; (with_reducible refine (named_any name _ hs).mono ?_); rintro e w' ⟨rfl, n, rfl⟩)
    go_ret
    exact ⟨ret_bool HF.out.symm, pw_below_drewN (below_alloc (Below.refl _ _) _) _⟩
  by_cases h6 : 6 < params.length
  · have HF := Aside0.mk (show formB ⟨name, params, regs, cells, l⟩ = false by simp [formB]; omega)
    go_enter Try.func44, Try.ntmps44
    go_wp2_with (go_at_call 68; (with_reducible refine (named_any name _ hs).mono ?_); rintro e w' ⟨rfl, n, rfl⟩)
    go_ret
    exact ⟨ret_bool HF.out.symm, pw_below_drewN (below_alloc (Below.refl _ _) _) _⟩
  have HS := Aside0.mk (show formB ⟨name, params, regs, cells, l⟩ = (params.all lenOk && decide ((wordsN params : Int) ≤ regs ∧ regs ≤ 10000 ∧ cellsN params ≤ cells ∧ cells ≤ 4096 ∧ 1 ≤ l.length ∧ l.length ≤ 10000)) by
    have h6' : params.length ≤ 6 := by omega
    simp [formB, hb, h6'])
  go_enter Try.func44, Try.ntmps44
  go_wp2_with (go_at_call 68; (with_reducible refine (named_any name _ hs).mono ?_); rintro e w' ⟨rfl, n, rfl⟩)
  go_loopw [20] (fun v20 wr => ∃ k : Nat, k ≤ params.length ∧ v20 = .int .i64 k ∧ Aside0 ((params.take k).all lenOk = true) ∧ Aside0 (Below (w.heap.size + 1) (w.alloc (.cells #[.string name, .slice A1 params.length c1, .int .i64 regs, .int .i64 cells, .slice A4 l.length c4] 25)) wr)) (fun v20 _ => params.length - (intOf v20).toNat)
  case atStart => exact ⟨0, Nat.zero_le _, rfl, ⟨rfl⟩, ⟨pw_below_drewN (box_start _ _) _⟩⟩
  case round =>
    obtain ⟨k, hk, rfl, HA, HB⟩ := hrel
    by_cases hlt : k < params.length
    · obtain ⟨t, ad, rfl, ht, h0, h1⟩ := nt_Ty HR.out (below_of_box HB.out) k hlt
      have HT := Aside0.mk ht
      clear ht
      obtain ⟨s, len⟩ := t
      simp only at h0 h1
      by_cases ho : 0 ≤ len ∧ len ≤ 16
      · have HN := Aside0.mk (all_snoc (f := lenOk) HT.out HA.out (by simp [lenOk, ho]))
        obtain ⟨ho1, ho2⟩ := ho
        go_wp2
        go_roundw
        case rel => exact ⟨k + 1, by omega, by go_num, HN, ⟨box_alloc HB.out⟩⟩
        case measure => simp [intOf]; omega
      · have HN := Aside0.mk (all_false (f := lenOk) HT.out (by simp [lenOk]; omega))
        have hx : len < 0 ∨ 16 < len := by omega
        clear ho
        rcases hx with hx | hx
        · go_wp2
          go_ret
          exact ⟨ret_bool (by rw [HS.out, HN.out, Bool.false_and]), below_of_box (box_alloc HB.out)⟩
        · have hx2 : ¬ len < 0 := by omega
          go_wp2
          go_ret
          exact ⟨ret_bool (by rw [HS.out, HN.out, Bool.false_and]), below_of_box (box_alloc HB.out)⟩
    · obtain rfl : k = params.length := by omega
      have HT := Aside0.mk (show params.all lenOk = true by have := HA.out; rwa [List.take_length] at this)
      have hlens : LensOk params := ⟨by omega, fun t ht => by have := List.all_eq_true.1 HT.out t ht; simpa [lenOk] using this⟩
      have HL := Aside0.mk hlens
      have hcn := cellsN_bd params hlens.2
      have hwn := wordsN_le params
      have HRr := Aside0.mk (Kd.C_below HR.out (below_of_box HB.out))
      have hb1 : wr.cell? ⟨w.heap.size, 1, none⟩ = some (.slice A1 params.length c1) := box_cells HB.out 1
      clear hlens
      go_wp2_with (go_at_call 69; (with_reducible refine (sizes_any params A1 c1 _ HL.out HRr.out).mono ?_); rintro e w2 ⟨rfl, hb2⟩; have HB2 := Aside0.mk (HB.out.trans (hb2.mono (by have := HB.out.size; rw [World.size_alloc] at this; exact this))); clear hb2; have hd2 : w2.cell? ⟨w.heap.size, 2, none⟩ = some (.int .i64 regs) := box_cells HB2.out 2; have hd3 : w2.cell? ⟨w.heap.size, 3, none⟩ = some (.int .i64 cells) := box_cells HB2.out 3; have hd4 : w2.cell? ⟨w.heap.size, 4, none⟩ = some (.slice A4 l.length c4) := box_cells HB2.out 4)
      all_goals
        go_ret
        exact ⟨ret_bool (by rw [HS.out, HT.out, Bool.true_and]; symm; first | (apply decide_eq_true; omega) | (apply decide_eq_false; omega) | (rw [Bool.eq_iff_iff]; simp only [decide_eq_true_eq]; omega)), below_of_box HB2.out⟩

set_option maxHeartbeats 1000000 in
theorem words_any (p : List Ty) (A : Option Addr) (c : Nat) (w : World) (hp : LensOk p) (hr : Kd.C kTy w A p.length p) :
    Calls Try.prog 48 #[.slice A p.length c] w fun e w' => e = .returned (.tuple #[.int .i64 (wordsN p), .int .i64 (cellsN p)]) ∧ Below w.heap.size w w' := by
  have HR := Aside0.mk hr
  have HP := Aside0.mk hp
  have hl := hp.1
  clear hr hp
  have hu := Try.underlying78
  go_enter Try.func48, Try.ntmps48
  go_wp2
  go_loopw [4, 5, 6] (fun v4 v5 v10 wr => ∃ k : Nat, k ≤ p.length ∧ v10 = .int .i64 k ∧ v4 = .int .i64 (wordsN (p.take k) : Nat) ∧ v5 = .int .i64 (cellsN (p.take k)) ∧ Aside0 (Below w.heap.size w wr)) (fun _ _ v10 _ => p.length - (intOf v10).toNat)
  case atStart => exact ⟨0, Nat.zero_le _, rfl, rfl, rfl, ⟨Below.refl _ _⟩⟩
  case round =>
    obtain ⟨k, hk, rfl, rfl, rfl, HB⟩ := hrel
    have hw := wordsN_le (p.take k)
    have hw2 : (p.take k).length ≤ k := List.length_take_le _ _
    have hc := cellsN_bd (p.take k) (fun t ht => HP.out.2 t (List.mem_of_mem_take ht))
    by_cases hlt : k < p.length
    · obtain ⟨t, ad, rfl, ht, h0, h1⟩ := nt_Ty HR.out HB.out k hlt
      have hrng := HP.out.2 _ (at_mem ht)
      have HW := Aside0.mk (wordsN_succ ht)
      have HCe := Aside0.mk (cellsN_succ ht)
      obtain ⟨s, len⟩ := t
      simp only at h0 h1 hrng HW HCe
      clear ht
      by_cases hz : len = 0
      · have hzb : (len == 0) = true := by simp [hz]
        have HZ := Aside0.mk hz
        clear hz
        go_wp2
        go_roundw
        case rel => exact ⟨k + 1, by omega, by go_num, by rw [HW.out, if_pos HZ.out]; go_num, by rw [HCe.out], HB⟩
        case measure => simp [intOf]; omega
      · have hzb : (len == 0) = false := by simp [hz]
        go_wp2
        go_roundw
        case rel => exact ⟨k + 1, by omega, by go_num, by rw [HW.out, if_neg hz]; go_num, by rw [HCe.out], HB⟩
        case measure => simp [intOf]; omega
    · go_wp2
      go_ret2
      exact ⟨ret_int2 (by rw [List.take_of_length_le (by omega)]) (by rw [List.take_of_length_le (by omega)]), HB.out⟩
end Go.Proofs.Ytlkkdpmloeipjaa
