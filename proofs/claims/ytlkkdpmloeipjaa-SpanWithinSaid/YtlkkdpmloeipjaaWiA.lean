/- Rows of truth values of the call's own; what the walk of SpanWithin keeps. -/
import Derived.Test.YtlkkdpmloeipjaaP4
import Derived.Test.YtlkkdpmloeipjaaS2
import Derived.OwnWalk
namespace Go.Proofs.Ytlkkdpmloeipjaa
open Go.RowKit Go.Proofs.YtlkkdpmloeipjaaW.PrintWords
set_option linter.unusedVariables false

structure BRow (w : World) (g : Nat) (F : List Bool) : Prop where
  blk : ∃ cells, w.heap[g]? = some (.cells cells 4 (0, 0))
  cell : ∀ (j : Nat) (b : Bool), F[j]? = some b → w.cell? ⟨g, j, none⟩ = some (.bool b)
theorem BRow.frozen {w : World} {g : Nat} {F : List Bool} (h : BRow w g F) (j : Nat) : w.frozen? ⟨g, j, none⟩ = false := by
  obtain ⟨cells, hc⟩ := h.blk
  exact blk_frozen hc j
theorem BRow.same {w w1 : World} {g : Nat} {F : List Bool} (h : BRow w g F) (hb : w1.heap[g]? = w.heap[g]?) : BRow w1 g F :=
  ⟨by obtain ⟨c, hc⟩ := h.blk; exact ⟨c, hb.trans hc⟩, fun j s hj => (World.cell?_of_block (a := ⟨g, j, none⟩) hb).trans (h.cell j s hj)⟩
theorem BRow.lt {w : World} {g : Nat} {F : List Bool} (h : BRow w g F) : g < w.heap.size := by
  obtain ⟨c, hc⟩ := h.blk
  exact blk_lt hc
theorem BRow.set {w : World} {g : Nat} {F : List Bool} (h : BRow w g F) {r : Nat} (hr : r < F.length) (v : Bool) : BRow (w.setCell ⟨g, r, none⟩ (.bool v)) g (F.set r v) := by
  obtain ⟨cells, hc⟩ := h.blk
  refine ⟨⟨_, blk_put hc _ _ rfl⟩, fun j t hj => ?_⟩
  by_cases e : r = j
  · subst e
    rw [List.getElem?_set_self hr] at hj
    injection hj with hj
    subst hj
    exact cell_set_same hc (h.cell r _ (List.getElem?_eq_getElem hr)) _
  · rw [List.getElem?_set_ne e] at hj
    rw [cell_set_other hc e]
    exact h.cell j t hj
theorem BRow_of_R {w : World} {base : Nat} {ok : Nat → Prop} {v : Value} {F : List Bool} (h : Kd.bool.R 4 w base ok v F) (hv : ∃ b, v.ownBlock = some b) : ∃ g cap, v = .slice (some ⟨g, 0, none⟩) F.length cap ∧ base ≤ g ∧ BRow w g F := by
  obtain ⟨A, c, he, hle, hC⟩ := Kd.R_reads h
  obtain ⟨hok, inner, ho, hr⟩ := h
  rcases ho.2 with ⟨rfl, _⟩ | ⟨g, cap, cur, rfl, hb, hh, hnc, hcap, _⟩
  · obtain ⟨b, hb⟩ := hv
    simp [Value.ownBlock] at hb
  · injection he with hA _ hcc
    subst hA
    refine ⟨g, cap, rfl, hb, ⟨cur, hh⟩, fun j s hj => ?_⟩
    have hlt := (List.getElem?_eq_some_iff.1 hj).1
    obtain ⟨ad, x, e, hx, h0⟩ := nt_scalar hC (Below.refl _ _) j hlt
    obtain rfl : x = s := by rw [hj] at hx; exact (Option.some.inj hx).symm
    injection e with e
    subst e
    rw [add_plain] at h0
    exact h0

/-- What the walk of SpanWithin keeps. -/
structure WiW (w4 wr : World) (g8 g9 : Nat) (F L : List Bool) : Prop where
  below : Below w4.heap.size w4 wr
  b8 : w4.heap.size ≤ g8
  b9 : w4.heap.size ≤ g9
  ne : g8 ≠ g9
  f : BRow wr g8 F
  l : BRow wr g9 L
section
variable {w4 wr w1 : World} {g8 g9 : Nat} {F L : List Bool}
theorem WiW.step (h : WiW w4 wr g8 g9 F L) (hb : Below wr.heap.size wr w1) : WiW w4 w1 g8 g9 F L :=
  ⟨below_step h.below hb, h.b8, h.b9, h.ne, h.f.same (hb.block _ h.f.lt), h.l.same (hb.block _ h.l.lt)⟩
theorem WiW.drew (h : WiW w4 wr g8 g9 F L) : WiW w4 wr.drew g8 g9 F L := h.step (below_drew1 (Below.refl _ _))
theorem WiW.grown {v : Value} {xs : List Int} {base : Nat} (h : WiW w4 wr g8 g9 F L) (hv : OwnI wr base v xs) (hb : Below w4.heap.size w4 w1) (hg : wr.grownBy w1 v.ownBlock) : WiW w4 w1 g8 g9 F L :=
  ⟨hb, h.b8, h.b9, h.ne, h.f.same (hg.block _ h.f.lt (by obtain ⟨c, hc⟩ := h.f.blk; exact Kd.R_ne hv hc (by decide))), h.l.same (hg.block _ h.l.lt (by obtain ⟨c, hc⟩ := h.l.blk; exact Kd.R_ne hv hc (by decide)))⟩
theorem WiW.set8 (h : WiW w4 wr g8 g9 F L) {r : Nat} (hr : r < F.length) (v : Bool) : WiW w4 (wr.setCell ⟨g8, r, none⟩ (.bool v)) g8 g9 (F.set r v) L :=
  ⟨below_set h.below h.b8, h.b8, h.b9, h.ne, h.f.set hr v, h.l.same (Below.heap_setCell _ _ _ _ (fun e => h.ne e.symm))⟩
theorem WiW.set9 (h : WiW w4 wr g8 g9 F L) {r : Nat} (hr : r < L.length) (v : Bool) : WiW w4 (wr.setCell ⟨g9, r, none⟩ (.bool v)) g8 g9 F (L.set r v) :=
  ⟨below_set h.below h.b9, h.b8, h.b9, h.ne, h.f.same (Below.heap_setCell _ _ _ _ h.ne), h.l.set hr v⟩
theorem WiW.own8 (h : WiW w4 wr g8 g9 F L) {v u : Value} {xs : List Int} {base r : Nat} (hv : OwnI wr base v xs) : OwnI (wr.setCell ⟨g8, r, none⟩ u) base v xs := by
  obtain ⟨c, hc⟩ := h.f.blk
  exact Kd.R_set hv hc (by decide) r u
theorem WiW.own9 (h : WiW w4 wr g8 g9 F L) {v u : Value} {xs : List Int} {base r : Nat} (hv : OwnI wr base v xs) : OwnI (wr.setCell ⟨g9, r, none⟩ u) base v xs := by
  obtain ⟨c, hc⟩ := h.l.blk
  exact Kd.R_set hv hc (by decide) r u
end
theorem info_b : (Try.prog.info? 4).map (fun i => (i.zero, i.size, i.bytes)) = some (some (.bool false), 1, 1) := by kernel_rfl
end Go.Proofs.Ytlkkdpmloeipjaa
