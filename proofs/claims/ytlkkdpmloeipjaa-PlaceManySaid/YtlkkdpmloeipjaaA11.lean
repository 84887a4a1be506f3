/- span.Spans$1. -/
import Derived.Test.YtlkkdpmloeipjaaA10
import Derived.RegionTactic
namespace Go.Proofs.Ytlkkdpmloeipjaa
open Go.RowKit Go.Proofs.YtlkkdpmloeipjaaW.PrintWords
set_option linter.unusedVariables false

/-! ### a row of spans in a block of the call's own -/
structure SpRow (w : World) (g : Nat) (sp : List Sp) : Prop where
  blk : ∃ cells, w.heap[g]? = some (.cells cells 26 (0, 0))
  lo : ∀ (j : Nat) (s : Sp), sp[j]? = some s → w.cell? ⟨g, j * 2, none⟩ = some (.int .i64 s.lo)
  hi : ∀ (j : Nat) (s : Sp), sp[j]? = some s → w.cell? ⟨g, j * 2 + 1, none⟩ = some (.int .i64 s.hi)
  len : sp.length ≤ 9223372036854775807
theorem SpRow.frozen {w : World} {g : Nat} {sp : List Sp} (h : SpRow w g sp) (j : Nat) : w.frozen? ⟨g, j, none⟩ = false := by
  obtain ⟨cells, hc⟩ := h.blk
  exact blk_frozen hc j
theorem SpRow.same {w w1 : World} {g : Nat} {sp : List Sp} (h : SpRow w g sp) (hb : w1.heap[g]? = w.heap[g]?) : SpRow w1 g sp :=
  ⟨by obtain ⟨c, hc⟩ := h.blk; exact ⟨c, hb.trans hc⟩, fun j s hj => (World.cell?_of_block (a := ⟨g, j * 2, none⟩) hb).trans (h.lo j s hj), fun j s hj => (World.cell?_of_block (a := ⟨g, j * 2 + 1, none⟩) hb).trans (h.hi j s hj), h.len⟩
theorem SpRow.lt {w : World} {g : Nat} {sp : List Sp} (h : SpRow w g sp) : g < w.heap.size := by
  obtain ⟨c, hc⟩ := h.blk
  exact blk_lt hc
theorem SpRow.below {w w1 : World} {g : Nat} {sp : List Sp} (h : SpRow w g sp) (hb : Below w.heap.size w w1) : SpRow w1 g sp := h.same (hb.block g h.lt)
theorem SpRow.C {w : World} {g : Nat} {sp : List Sp} (h : SpRow w g sp) : Kd.C kSp w (some ⟨g, 0, none⟩) sp.length sp := by
  refine ⟨rfl, h.len, fun _ => ⟨_, rfl, fun j p hj => ⟨[.int .i64 p.lo, .int .i64 p.hi], rfl, kSp_mk w p, fun i u hi => ?_⟩⟩⟩
  show w.cell? (Addr.add ⟨g, 0, none⟩ (j * 2 + i)) = _
  rw [add_plain]
  match i, hi with
  | 0, hi => rw [show u = .int .i64 p.lo by simpa using hi.symm]; exact h.lo j p hj
  | 1, hi => rw [show u = .int .i64 p.hi by simpa using hi.symm]; exact h.hi j p hj
  | i + 2, hi => simp at hi

theorem cell_set_same {w : World} {g i : Nat} {t : TypeId} {cells : Array Value} {v0 : Value} (hb : w.heap[g]? = some (.cells cells t (0, 0))) (hc : w.cell? ⟨g, i, none⟩ = some v0) (v : Value) : (w.setCell ⟨g, i, none⟩ v).cell? ⟨g, i, none⟩ = some v := by
  have hi : i < cells.size := by
    rw [blk_cell hb] at hc
    exact (Array.getElem?_eq_some_iff.1 hc).1
  rw [blk_cell (blk_put hb i v rfl), Array.getElem?_setIfInBounds_self]
  simp [hi]
theorem cell_set_other {w : World} {g i j : Nat} {t : TypeId} {cells : Array Value} (hb : w.heap[g]? = some (.cells cells t (0, 0))) (hne : i ≠ j) (v : Value) : (w.setCell ⟨g, i, none⟩ v).cell? ⟨g, j, none⟩ = w.cell? ⟨g, j, none⟩ := by
  rw [blk_cell (blk_put hb i v rfl), blk_cell hb, Array.getElem?_setIfInBounds_ne hne]

theorem SpRow.setLo {w : World} {g : Nat} {sp : List Sp} (h : SpRow w g sp) {r : Nat} {s : Sp} (hr : sp[r]? = some s) (v : Int) : SpRow (w.setCell ⟨g, r * 2, none⟩ (.int .i64 v)) g (sp.set r ⟨v, s.hi⟩) := by
  obtain ⟨cells, hc⟩ := h.blk
  refine ⟨⟨_, blk_put hc _ _ rfl⟩, fun j t hj => ?_, fun j t hj => ?_, by rw [List.length_set]; exact h.len⟩
  · by_cases e : r = j
    · subst e
      rw [List.getElem?_set_self (List.getElem?_eq_some_iff.1 hr).1] at hj
      injection hj with hj
      subst hj
      exact cell_set_same hc (h.lo r s hr) _
    · rw [List.getElem?_set_ne e] at hj
      rw [cell_set_other hc (by omega)]
      exact h.lo j t hj
  · rw [cell_set_other hc (by omega)]
    by_cases e : r = j
    · subst e
      rw [List.getElem?_set_self (List.getElem?_eq_some_iff.1 hr).1] at hj
      injection hj with hj
      subst hj
      exact h.hi r s hr
    · rw [List.getElem?_set_ne e] at hj
      exact h.hi j t hj
theorem SpRow.setHi {w : World} {g : Nat} {sp : List Sp} (h : SpRow w g sp) {r : Nat} {s : Sp} (hr : sp[r]? = some s) (v : Int) : SpRow (w.setCell ⟨g, r * 2 + 1, none⟩ (.int .i64 v)) g (sp.set r ⟨s.lo, v⟩) := by
  obtain ⟨cells, hc⟩ := h.blk
  refine ⟨⟨_, blk_put hc _ _ rfl⟩, fun j t hj => ?_, fun j t hj => ?_, by rw [List.length_set]; exact h.len⟩
  · rw [cell_set_other hc (by omega)]
    by_cases e : r = j
    · subst e
      rw [List.getElem?_set_self (List.getElem?_eq_some_iff.1 hr).1] at hj
      injection hj with hj
      subst hj
      exact h.lo r s hr
    · rw [List.getElem?_set_ne e] at hj
      exact h.lo j t hj
  · by_cases e : r = j
    · subst e
      rw [List.getElem?_set_self (List.getElem?_eq_some_iff.1 hr).1] at hj
      injection hj with hj
      subst hj
      exact cell_set_same hc (h.hi r s hr) _
    · rw [List.getElem?_set_ne e] at hj
      rw [cell_set_other hc (by omega)]
      exact h.hi j t hj

/-- What a use of a register at a place makes of the spans. -/
def touchS (words i : Int) (s : Sp) (r : Int) : Sp := ⟨if s.hi < 0 ∧ words ≤ r then i else s.lo, i⟩
def touchSp (words i : Int) (sp : List Sp) (r : Int) : List Sp := sp.set r.toNat (touchS words i (sp.getD r.toNat zSp) r)

theorem grownBy_set (w : World) (g j : Nat) (v : Value) : w.grownBy (w.setCell ⟨g, j, none⟩ v) (some g) :=
  ⟨rfl, rfl, rfl, by show w.heap.size ≤ (w.heap.modify g _).size; rw [Array.size_modify]; exact Nat.le_refl _, fun k _ hk => Below.heap_setCell _ _ _ k (fun e => hk (by rw [e]))⟩
theorem grownBy_drewN {w w1 : World} {row : Option Nat} (h : w.grownBy w1 row) (n : Nat) : w.grownBy (w1.drewN n) row := ⟨h.os, h.tape, h.output, h.size, h.block⟩
theorem grownBy_drew {w w1 : World} {row : Option Nat} (h : w.grownBy w1 row) : w.grownBy w1.drew row := ⟨h.os, h.tape, h.output, h.size, h.block⟩
theorem SpRow.drew {w : World} {g : Nat} {sp : List Sp} (h : SpRow w g sp) : SpRow w.drew g sp := h.same rfl

set_option maxHeartbeats 4000000 in
set_option maxRecDepth 100000 in
theorem touch_any (sp : List Sp) (r : Nat) (s : Sp) (words i : Int) (b5 b7 b10 g cap : Nat) (w : World) (hr : sp[r]? = some s)
    (h5 : w.cell? ⟨b5, 0, none⟩ = some (.slice (some ⟨g, 0, none⟩) sp.length cap)) (h7 : w.cell? ⟨b7, 0, none⟩ = some (.int .i64 words)) (h10 : w.cell? ⟨b10, 0, none⟩ = some (.int .i64 i))
    (n5 : b5 ≠ g) (n7 : b7 ≠ g) (n10 : b10 ≠ g) (hg : SpRow w g sp) :
    Calls Try.prog 47 #[.int .i64 r, .pointer (some ⟨b5, 0, none⟩), .pointer (some ⟨b7, 0, none⟩), .pointer (some ⟨b10, 0, none⟩)] w fun e w' => e = .returned (.tuple #[]) ∧ SpRow w' g (touchSp words i sp r) ∧ w.grownBy w' (some g) := by
  have hlt := (List.getElem?_eq_some_iff.1 hr).1
  have g0 := hg.lo r s hr
  have g1 := hg.hi r s hr
  have f0 := hg.frozen (r * 2)
  have f1 := hg.frozen (r * 2 + 1)
  have HG := Aside0.mk hg
  have HR := Aside0.mk hr
  have HT := Aside0.mk (show touchSp words i sp r = sp.set r (touchS words i s r) by simp [touchSp, List.getD, hr])
  clear hg hr
  obtain ⟨slo, shi⟩ := s
  simp only at g0 g1
  by_cases h1 : shi < 0
  · by_cases h2 : words ≤ r
    · have hT := Aside0.mk (show touchS words i ⟨slo, shi⟩ r = ⟨i, i⟩ by simp [touchS, h1, h2])
      go_enter Try.func47, Try.ntmps47
      go_wp2
      go_region
      go_wp2
      go_region
      go_end0
      have hG2 := HG.out.setLo HR.out i
      have hG3 := hG2.setHi (r := r) (s := ⟨i, shi⟩) (by rw [List.getElem?_set_self hlt]) i
      rw [List.set_set] at hG3
      refine ⟨rfl, ?_, ?_⟩
      · rw [HT.out, hT.out]
        exact hG3.same rfl
      · exact grownBy_drew (grownBy_drew ((grownBy_set w g _ _).trans (grownBy_set _ g _ _)))
    · have hT := Aside0.mk (show touchS words i ⟨slo, shi⟩ r = ⟨slo, i⟩ by simp [touchS, h2])
      go_enter Try.func47, Try.ntmps47
      go_wp2
      go_region
      go_end0
      refine ⟨rfl, ?_, ?_⟩
      · rw [HT.out, hT.out]
        exact (HG.out.setHi HR.out i).same rfl
      · exact grownBy_drew (grownBy_set w g _ _)
  · have hT := Aside0.mk (show touchS words i ⟨slo, shi⟩ r = ⟨slo, i⟩ by simp [touchS, h1])
    go_enter Try.func47, Try.ntmps47
    go_wp2
    go_region
    go_end0
    refine ⟨rfl, ?_, ?_⟩
    · rw [HT.out, hT.out]
      exact (HG.out.setHi HR.out i).same rfl
    · exact grownBy_drew (grownBy_set w g _ _)
end Go.Proofs.Ytlkkdpmloeipjaa
