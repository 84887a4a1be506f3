/- place.Places: what is kept while registers are placed. -/
import Derived.Test.YtlkkdpmloeipjaaD6
import Derived.Test.YtlkkdpmloeipjaaD2
import Derived.Maps.GroupsBeside
import Derived.Maps.RangeWalk
namespace Go.Proofs.Ytlkkdpmloeipjaa
open Go.RowKit Go.Proofs.YtlkkdpmloeipjaaW.PrintWords Go.Maps
set_option linter.unusedVariables false

theorem below_grownBy {w w1 : World} (h : Below w.heap.size w w1) : w.grownBy w1 none := ⟨h.os, h.tape, h.output, h.size, fun k hk _ => h.block k hk⟩
/-- A row of the call's own, as it is read. -/
theorem ints_reads {w : World} {base : Nat} {v : Value} {zs : List Int} (h : w.ownsInts base 3 .i64 v zs) : ∃ A c, v = .slice A zs.length c ∧ Kd.C (Kd.int .i64) w A zs.length zs := by
  obtain ⟨⟨hl, h1⟩, hw⟩ := h
  rcases h1 with ⟨rfl, h0⟩ | ⟨g, cap, cur, rfl, hb, hh, hnc, hcap, hsz, htk⟩
  · obtain rfl : zs = [] := List.eq_nil_of_length_eq_zero h0
    exact ⟨none, 0, rfl, Kd.C_nil _ _⟩
  · refine ⟨some ⟨g, 0, none⟩, cap, rfl, rfl, by unfold maxLen at hcap; omega, fun hne => ⟨_, rfl, fun j p hj => ⟨[.int .i64 p], rfl, rfl, fun i u hi => ?_⟩⟩⟩
    match i, hi with
    | 0, hi =>
      obtain rfl : Value.int .i64 p = u := Option.some.inj hi
      rw [add_plain]
      show w.cell? ⟨g, j * 1 + 0, none⟩ = _
      have hjl := (List.getElem?_eq_some_iff.1 hj).1
      have h2 : (cur.toList.take (zs.length * 1))[j]? = some (.int .i64 p) := by rw [htk, List.getElem?_map, hj]; rfl
      rw [List.getElem?_take_of_lt (by omega), Array.getElem?_toList] at h2
      rw [Nat.mul_one, Nat.add_zero]
      exact blk_cell hh j |>.trans h2
    | i + 1, hi => simp at hi
/-- The row of places and the map of slices, beside the map of those who are busy (block b2). -/
structure PlG (w4 wr : World) (g8 b b2 n : Nat) (out : List Int) (g : Int → List Int) : Prop where
  below : Below w4.heap.size w4 wr
  b8 : w4.heap.size ≤ g8
  lt8 : g8 < b
  bb : w4.heap.size ≤ b
  lt2 : b < b2
  row : IRow wr g8 out
  gm : ∃ D : DataW Unit, wr.ownsGroups Try.prog 3 (b + 1) 3 .i64 b n D ∧ HoldsG D g
  sh : wr.Shuns b (fun j => j = b2)
theorem PlG.kept {w4 wr w1 : World} {g8 b b2 n : Nat} {out : List Int} {g : Int → List Int} (h : PlG w4 wr g8 b b2 n out g) {row : Option Nat} (hg : wr.grownBy w1 row) (hr : row = none ∨ row = some b2) : PlG w4 w1 g8 b b2 n out g := by
  have h8 := h.b8
  have h9 := h.lt8
  have h10 := h.lt2
  have h11 := h.bb
  obtain ⟨D, hD, hh⟩ := h.gm
  have hne : ∀ k, k < b2 → some k ≠ row := by rintro k hk rfl; rcases hr with hr | hr <;> simp at hr; omega
  refine ⟨⟨hg.os.trans h.below.os, hg.tape.trans h.below.tape, hg.output.trans h.below.output, Nat.le_trans h.below.size hg.size, fun k hk => ?_⟩, h8, h9, h11, h10, h.row.same (hg.block g8 h.row.lt (hne g8 (by omega))), ⟨D, ?_, hh⟩, ?_⟩
  · rw [hg.block k (Nat.lt_of_lt_of_le hk h.below.size) (hne k (by omega))]
    exact h.below.block k hk
  · refine hD.kept hg (hne b h10) (h.sh.rowsOff ?_)
    rintro j rfl
    rcases hr with hr | hr
    · simp at hr
    · injection hr
  · obtain ⟨es, clock, hb, _⟩ := hD
    exact h.sh.kept hg (Array.getElem?_eq_some_iff.1 hb).1 (hne b h10)
/-- Storing into the row of places. -/
theorem PlG.store {w4 wr : World} {g8 b b2 n : Nat} {out : List Int} {g : Int → List Int} (h : PlG w4 wr g8 b b2 n out g) {r : Nat} (hr : r < out.length) (v : Int) : PlG w4 (wr.setCell ⟨g8, r, none⟩ (.int .i64 v)) g8 b b2 n (out.set r v) g := by
  have h8 := h.b8
  have h9 := h.lt8
  have h10 := h.lt2
  have h11 := h.bb
  have hg := grownBy_set wr g8 r (.int .i64 v)
  obtain ⟨D, hD, hh⟩ := h.gm
  refine ⟨below_set h.below h8, h8, h9, h11, h10, h.row.set hr v, ⟨D, ?_, hh⟩, ?_⟩
  · refine hD.kept hg (fun e => ?_) (hD.rowsAbove ?_)
    · injection e with e; omega
    · rintro j e; injection e with e; omega
  · obtain ⟨es, clock, hb, _⟩ := hD
    exact h.sh.kept hg (Array.getElem?_eq_some_iff.1 hb).1 (fun e => by injection e with e; omega)
theorem IMap.mono {w : World} {b n n' : Nat} {f : Int → Option Int} (h : IMap w b n f) (hn : n ≤ n') : IMap w b n' f := by
  obtain ⟨D, h1, h2⟩ := h
  exact ⟨D, h1.mono hn, h2⟩
theorem owns_isMap {w : World} {b n : Nat} {D : DataW Unit} (h : w.ownsMap Try.prog 3 (plainElem Try.prog 3) b n D) : IsMap D := by
  obtain ⟨es, clock, _, _, _, rfl⟩ := h
  exact ⟨_, rfl⟩
end Go.Proofs.Ytlkkdpmloeipjaa
