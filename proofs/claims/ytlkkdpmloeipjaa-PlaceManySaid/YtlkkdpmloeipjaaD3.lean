/- A map of slices: the elements by the key; rows of ints that are stored into. -/
import Derived.Test.YtlkkdpmloeipjaaD2
import Derived.Test.YtlkkdpmloeipjaaA11
namespace Go.Proofs.Ytlkkdpmloeipjaa
open Go.RowKit Go.Proofs.YtlkkdpmloeipjaaW.PrintWords Go.Maps
open Go.ChangeShapes (lits)
set_option linter.unusedVariables false

/-- What a datum of a map of slices holds. -/
def HoldsG (D : DataW Unit) (g : Int → List Int) : Prop := ∀ k, (g k = [] ∧ D.atKey (iLit k) .nil = .nil) ∨ (g k ≠ [] ∧ D.atKey (iLit k) .nil = .slice (lits .i64 (g k)) [])
theorem HoldsG.at {D : DataW Unit} {g : Int → List Int} (h : HoldsG D g) {w : World} {base : Nat} {k : Int} {v : Value} {zs : List Int} (hat : D.atKey (iLit k) .nil = rowDatum .i64 v zs) (ho : w.ownsInts base 3 .i64 v zs) : zs = g k := by
  rcases h k with ⟨hg, h1⟩ | ⟨hg, h1⟩ <;> rcases ho.datum (H := Unit) with ⟨h2, h3⟩ | h2
  · rw [hg, h3]
  · rw [h1, h2] at hat; cases hat
  · rw [h1, h2] at hat; cases hat
  · rw [h1, h2] at hat
    injection hat with hat
    exact (lits_inj hat).symm
def updG (g : Int → List Int) (k : Int) (l : List Int) : Int → List Int := fun q => if q = k then l else g q
theorem HoldsG.put {D : DataW Unit} {g : Int → List Int} (h : HoldsG D g) (hm : IsMap D) {w : World} {base : Nat} {k : Int} {v : Value} {zs : List Int} (ho : w.ownsInts base 3 .i64 v zs) (hz : zs ≠ []) : HoldsG (D.put (iLit k) (rowDatum .i64 v zs)) (updG g k zs) := by
  intro q
  unfold updG
  by_cases hq : q = k
  · subst hq
    rw [if_pos rfl, atKey_put_same hm (isKey_int q), ho.datum_pos hz]
    exact .inr ⟨hz, rfl⟩
  · rw [if_neg hq, atKey_put_other (iLit_ne hq)]
    exact h q
theorem groups_isMap {w : World} {base b n : Nat} {D : DataW Unit} (h : w.ownsGroups Try.prog 3 base 3 .i64 b n D) : IsMap D := by
  obtain ⟨es, clock, _, _, _, rfl, _⟩ := h
  exact ⟨_, rfl⟩

/-- A row of ints in a block of the call's own. -/
structure IRow (w : World) (g : Nat) (F : List Int) : Prop where
  blk : ∃ cells, w.heap[g]? = some (.cells cells 3 (0, 0))
  cell : ∀ (j : Nat) (b : Int), F[j]? = some b → w.cell? ⟨g, j, none⟩ = some (.int .i64 b)
theorem IRow.frozen {w : World} {g : Nat} {F : List Int} (h : IRow w g F) (j : Nat) : w.frozen? ⟨g, j, none⟩ = false := by
  obtain ⟨cells, hc⟩ := h.blk
  exact blk_frozen hc j
theorem IRow.same {w w1 : World} {g : Nat} {F : List Int} (h : IRow w g F) (hb : w1.heap[g]? = w.heap[g]?) : IRow w1 g F :=
  ⟨by obtain ⟨c, hc⟩ := h.blk; exact ⟨c, hb.trans hc⟩, fun j s hj => (World.cell?_of_block (a := ⟨g, j, none⟩) hb).trans (h.cell j s hj)⟩
theorem IRow.lt {w : World} {g : Nat} {F : List Int} (h : IRow w g F) : g < w.heap.size := by
  obtain ⟨c, hc⟩ := h.blk
  exact blk_lt hc
theorem IRow.set {w : World} {g : Nat} {F : List Int} (h : IRow w g F) {r : Nat} (hr : r < F.length) (v : Int) : IRow (w.setCell ⟨g, r, none⟩ (.int .i64 v)) g (F.set r v) := by
  obtain ⟨cells, hc⟩ := h.blk
  refine ⟨⟨_, blk_put hc _ _ rfl⟩, fun j t hj => ?_⟩
  by_cases e : r = j
  · subst e
    rw [List.getElem?_set_self hr] at hj
    injection hj with hj
    subst hj
    exact cell_set_same hc (h.cell r _ (List.getElem?_eq_getElem hr)) _
  · rw [List.getElem?_set_ne e] at hj
    rw [cell_set_other hc e]
    exact h.cell j t hj
theorem IRow.C {w : World} {g : Nat} {F : List Int} (h : IRow w g F) (hl : F.length ≤ 9223372036854775807) : Kd.C (Kd.int .i64) w (some ⟨g, 0, none⟩) F.length F := by
  refine ⟨rfl, hl, fun _ => ⟨_, rfl, fun j p hj => ⟨[.int .i64 p], rfl, rfl, fun i u hi => ?_⟩⟩⟩
  match i, hi with
  | 0, hi =>
    obtain rfl : Value.int .i64 p = u := Option.some.inj hi
    rw [add_plain]
    show w.cell? ⟨g, j * 1 + 0, none⟩ = _
    rw [Nat.mul_one, Nat.add_zero]
    exact h.cell j p hj
  | i + 1, hi => simp at hi
theorem IRow_of_R {w : World} {base : Nat} {ok : Nat → Prop} {v : Value} {F : List Int} (h : (Kd.int .i64).R 3 w base ok v F) (hv : ∃ b, v.ownBlock = some b) : ∃ g cap, v = .slice (some ⟨g, 0, none⟩) F.length cap ∧ base ≤ g ∧ IRow w g F ∧ F.length ≤ cap := by
  obtain ⟨A, c, he, hle, hC⟩ := Kd.R_reads h
  obtain ⟨hok, inner, ho, hr⟩ := h
  rcases ho.2 with ⟨rfl, _⟩ | ⟨g, cap, cur, rfl, hb, hh, hnc, hcap, _⟩
  · obtain ⟨b, hb⟩ := hv
    simp [Value.ownBlock] at hb
  · injection he with hA _ hcc
    subst hA
    refine ⟨g, cap, rfl, hb, ⟨⟨cur, hh⟩, fun j s hj => ?_⟩, hnc⟩
    have hlt := (List.getElem?_eq_some_iff.1 hj).1
    obtain ⟨ad, x, e, hx, h0⟩ := nt_scalar hC (Below.refl _ _) j hlt
    obtain rfl : x = s := by rw [hj] at hx; exact (Option.some.inj hx).symm
    injection e with e
    subst e
    rw [add_plain] at h0
    exact h0

/-- The registers that begin at a place, of the first k. -/
def begTo (S : List Sp) (k : Nat) (at_ : Int) : List Int := (begL S k at_).map (fun r : Nat => (r : Int))
theorem begTo_zero (S : List Sp) : begTo S 0 = fun _ => [] := by funext at_; simp [begTo, begL]
theorem begTo_in {S : List Sp} {k : Nat} {s : Sp} (hs : S[k]? = some s) (h : s.lo < s.hi) : begTo S (k + 1) = updG (begTo S k) s.lo (begTo S k s.lo ++ [(k : Int)]) := by
  funext q
  have hd : S.getD k zSp = s := by simp [List.getD, hs]
  unfold updG begTo begL
  rw [List.range_succ, List.filter_append, List.map_append]
  by_cases hq : q = s.lo
  · subst hq
    rw [if_pos rfl]
    simp only [List.filter_cons, List.filter_nil, hd, h, and_self, decide_true, if_true, List.map_cons, List.map_nil]
  · rw [if_neg hq]
    have : ¬ (s.lo = q ∧ s.lo < s.hi) := fun hh => hq hh.1.symm
    simp only [List.filter_cons, List.filter_nil, hd, this, decide_false, Bool.false_eq_true, if_false, List.map_nil, List.append_nil]
theorem begTo_out {S : List Sp} {k : Nat} {s : Sp} (hs : S[k]? = some s) (h : ¬ s.lo < s.hi) : begTo S (k + 1) = begTo S k := by
  funext q
  have hd : S.getD k zSp = s := by simp [List.getD, hs]
  unfold begTo begL
  rw [List.range_succ, List.filter_append, List.map_append]
  have : ¬ (s.lo = q ∧ s.lo < s.hi) := fun hh => h hh.2
  simp only [List.filter_cons, List.filter_nil, hd, this, decide_false, Bool.false_eq_true, if_false, List.map_nil, List.append_nil]
end Go.Proofs.Ytlkkdpmloeipjaa
