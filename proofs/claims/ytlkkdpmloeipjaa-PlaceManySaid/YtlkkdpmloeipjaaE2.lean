/- place.Places: what is kept while the spans are sorted by their begin. -/
import Derived.Test.YtlkkdpmloeipjaaE1
import Derived.Test.YtlkkdpmloeipjaaSB
import Derived.Test.YtlkkdpmloeipjaaA16
import Derived.OwnWalk
namespace Go.Proofs.Ytlkkdpmloeipjaa
open Go.RowKit Go.Proofs.YtlkkdpmloeipjaaW.PrintWords Go.Maps
set_option linter.unusedVariables false

/-- What place.Places hands back. -/
def RetPl (w : World) (l : List Int) (n er : Int) (e : Ending) (w' : World) : Prop := ∃ A c, e = .returned (.tuple #[.slice A l.length c, .int .i64 n, .int .i64 er]) ∧ l.length ≤ c ∧ Kd.C (Kd.int .i64) w' A l.length l ∧ Below w.heap.size w w'
/-- The places' row, its first k elements set to 3. -/
def initI (n k : Nat) : List Int := List.replicate k 3 ++ List.replicate (n - k) 0
theorem initI_zero (n : Nat) : initI n 0 = List.replicate n 0 := by simp [initI]
theorem initI_end (n : Nat) : initI n n = List.replicate n 3 := by simp [initI]
theorem initI_length {n k : Nat} (h : k ≤ n) : (initI n k).length = n := by simp [initI]; omega
theorem initI_at {n k : Nat} (h : k < n) : (initI n k)[k]? = some 0 := by
  unfold initI
  rw [List.getElem?_append_right (by simp)]
  simp [List.getElem?_replicate]; omega
theorem initI_set {n k : Nat} (h : k < n) : (initI n k).set k 3 = initI n (k + 1) := by
  unfold initI
  obtain ⟨d, hd⟩ : ∃ d, n - k = d + 1 := ⟨n - k - 1, by omega⟩
  rw [hd, show n - (k + 1) = d by omega, List.replicate_succ, List.set_append_right _ _ (by simp), List.replicate_succ']
  simp
theorem wf_mid {x : Int} (h1 : -100000000 ≤ x) (h2 : x ≤ 100000000) : (Lit.int .i64 x).wf = true := WalkArith.wf_i64 (by omega)
theorem groups_mono {w : World} {base b n n' : Nat} {D : DataW Unit} (h : w.ownsGroups Try.prog 3 base 3 .i64 b n D) (hn : n ≤ n') : w.ownsGroups Try.prog 3 base 3 .i64 b n' D := by
  obtain ⟨es, clock, hb, F, hs, hD, hbb, hlen, hap⟩ := h
  exact ⟨es, clock, hb, F, Nat.le_trans hs hn, hD, hbb, fun x hx zs ho => Nat.le_trans (hlen x hx zs ho) hn, hap⟩
theorem row_box {W w5 : World} {base g : Nat} {v : Value} {zs : List Int} {cs : Array Value} (ho : W.ownsInts base 3 .i64 v zs) (hb : W.heap[g]? = some (.cells cs 26 (0, 0))) (h3 : W.grownBy w5 v.ownBlock) (j : Nat) : w5.cell? ⟨g, j, none⟩ = cs[j]? := by
  refine blk_cell (blk_grown hb h3 (fun e => ?_)) j
  obtain ⟨⟨_, h1⟩, _⟩ := ho
  rcases h1 with ⟨rfl, _⟩ | ⟨g', cap, cur, rfl, _, hh, _⟩
  · simp [Value.ownBlock] at e
  · simp only [Value.ownBlock] at e
    injection e with e
    exact blk_ne hb hh (by decide) e
/-- An entry that comes in a range: the map still holds it. -/
theorem sweep_at {D : DataW Unit} {f : Int → Option Int} {at_ x c : Int} {left : Lit → Bool} (h : Holds D (sweepF f at_ left)) (hat : ∀ zd, D.atKey (.int .i64 x) zd = .lit (.int .i64 c)) (hl : left (.int .i64 x) = true) : f x = some c := by
  have h1 := (h x).1
  rw [show Maps.has D (iLit x) = true from has_true_of_atKey hat] at h1
  have h2 := Option.isSome_iff_exists.1 h1.symm
  obtain ⟨e, he⟩ := h2
  have h3 := (h x).2 e he .nil
  rw [show D.atKey (iLit x) .nil = .lit (.int .i64 c) from hat .nil] at h3
  injection h3 with h3
  injection h3 with _ h3
  subst h3
  unfold sweepF at he
  cases hf : f x with
  | none => rw [hf] at he; cases he
  | some e' =>
    rw [hf] at he
    simp only at he
    split at he
    · cases he
    · exact he
structure PlB (w4 wr : World) (g8 b n : Nat) (out : List Int) (g : Int → List Int) : Prop where
  below : Below w4.heap.size w4 wr
  b8 : w4.heap.size ≤ g8
  lt8 : g8 < b
  row : IRow wr g8 out
  bb : w4.heap.size ≤ b
  base : b + 1 ≤ wr.heap.size
  gm : ∃ D : DataW Unit, wr.ownsGroups Try.prog 3 (b + 1) 3 .i64 b n D ∧ HoldsG D g
theorem PlB.grown {w4 wr w1 : World} {g8 b n : Nat} {out : List Int} {g : Int → List Int} (h : PlB w4 wr g8 b n out g) (hg : wr.grownBy w1 none) : PlB w4 w1 g8 b n out g := by
  have h8 := h.b8
  obtain ⟨D, hD, hh⟩ := h.gm
  refine ⟨⟨hg.os.trans h.below.os, hg.tape.trans h.below.tape, hg.output.trans h.below.output, Nat.le_trans h.below.size hg.size, fun k hk => ?_⟩, h8, h.lt8, h.row.same (hg.block g8 h.row.lt (by simp)), h.bb, Nat.le_trans h.base hg.size, D, ?_, hh⟩
  · rw [hg.block k (Nat.lt_of_lt_of_le hk h.below.size) (by simp)]
    exact h.below.block k hk
  · exact hD.kept hg (by simp) (hD.rowsAbove (fun j hj => by cases hj))
theorem PlB.drew {w4 wr : World} {g8 b n : Nat} {out : List Int} {g : Int → List Int} (h : PlB w4 wr g8 b n out g) : PlB w4 wr.drew g8 b n out g := h.grown (grownBy_drew (World.grownBy.refl _ _))
theorem PlB.put {w4 W w5 w6 : World} {g8 b k : Nat} {out : List Int} {E : List Sp} {s : Sp} {D : DataW Unit} {v v' : Value} {zs : List Int} (h : PlB w4 W g8 b k out (begTo E k)) (hs : E[k]? = some s) (hlt : s.lo < s.hi) (hD : HoldsG D (begTo E k)) (hz : zs = begTo E k s.lo)
    (hw : W.ownsGroups Try.prog 3 (b + 1) 3 .i64 b k D) (ho : W.ownsInts (b + 1) 3 .i64 v zs) (h3 : W.grownBy w5 v.ownBlock) (h6 : w5.ownsInts (b + 1) 3 .i64 v' (zs ++ [(k : Int)]))
    (h7 : w6.ownsGroups Try.prog 3 (b + 1) 3 .i64 b (k + 1) (D.put (iLit s.lo) (rowDatum .i64 v' (zs ++ [(k : Int)])))) (h8 : w5.grownBy w6 (some b)) : PlB w4 w6 g8 b (k + 1) out (begTo E (k + 1)) := by
  have hbl := RowKit.Below.groups h.below ho h3 h8 h.below.size (Nat.le_succ_of_le h.bb) h.bb
  have hb8 := h.lt8
  have e8 : w6.heap[g8]? = W.heap[g8]? := by
    rw [h8.block g8 (Nat.lt_of_lt_of_le h.row.lt h3.size) (fun e => by injection e with e; omega)]
    exact h3.block g8 h.row.lt (fun e => by have := (ho.1.lt g8 e.symm).1; omega)
  refine ⟨hbl, h.b8, h.lt8, h.row.same e8, h.bb, Nat.le_trans h.base (Nat.le_trans h3.size h8.size), _, h7, ?_⟩
  rw [begTo_in hs hlt, ← hz]
  exact hD.put (groups_isMap hw) h6 (by simp)
/-- The map of those who are busy is made. -/
theorem PlB.busy {w4 wr : World} {g8 b n : Nat} {out : List Int} {g : Int → List Int} (h : PlB w4 wr g8 b n out g) : PlG w4 (wr.alloc (.map #[] 0)) g8 b wr.heap.size n out g := by
  have h1 := h.grown (World.grownBy_alloc wr (.map #[] 0) none)
  have hb := h.base
  obtain ⟨D, hD, hh⟩ := h.gm
  refine ⟨h1.below, h1.b8, h1.lt8, h1.bb, by omega, h1.row, h1.gm, ?_⟩
  have hs : wr.Shuns b (fun _ => False) := fun _ _ _ _ _ _ _ => id
  have hs2 : wr.Shuns b (fun j => j = wr.heap.size) := hs.reno hD (fun j hj => .inr (by omega))
  exact hs2.kept (World.grownBy_alloc wr (.map #[] 0) none) (by omega) (by simp)

/-- The state while the registers that begin at a place are placed: those of the first j of them. -/
def plPart (c : Code) (S : List Sp) (n : Nat) (at_ : Int) (s : PlSt) (j : Nat) : PlSt := ((begL S n at_).take j).foldl (plOne c S) { s with busy := dropF s.busy at_ }
theorem plPart_zero (c : Code) (S : List Sp) (n : Nat) (at_ : Int) (s : PlSt) : plPart c S n at_ s 0 = { s with busy := dropF s.busy at_ } := rfl
theorem plPart_succ {c : Code} {S : List Sp} {n : Nat} {at_ : Int} {s : PlSt} {j r : Nat} (h : (begL S n at_)[j]? = some r) : plPart c S n at_ s (j + 1) = plOne c S (plPart c S n at_ s j) r := by
  unfold plPart
  rw [List.take_add_one, h, List.foldl_append]
  rfl
theorem plPart_end (c : Code) (S : List Sp) (n : Nat) (at_ : Int) (s : PlSt) : plPart c S n at_ s (begL S n at_).length = plAt c S n at_ s := by
  unfold plPart plAt
  rw [List.take_length]
theorem plPart_ok {c : Code} {S : List Sp} {n : Nat} {at_ : Int} {s : PlSt} (h : PlOk n s) (j : Nat) : PlOk n (plPart c S n at_ s j) := PlOk.fold _ _ (h.drop at_)
theorem plPart_cnt {c : Code} {S : List Sp} {n : Nat} {at_ : Int} {s : PlSt} (j : Nat) : (plPart c S n at_ s j).cnt ≤ s.cnt + n := by
  unfold plPart
  rw [plFold_cnt]
  have h2 : (begL S n at_).length ≤ n := by
    unfold begL
    exact Nat.le_trans (List.length_filter_le _ _) (by simp)
  have := List.length_take_le' j (begL S n at_)
  show s.cnt + _ ≤ _
  omega
theorem begL_lt {S : List Sp} {n : Nat} {at_ : Int} {j r : Nat} (h : (begL S n at_)[j]? = some r) : r < n := by
  have := List.mem_of_getElem? h
  unfold begL at this
  have := (List.mem_filter.1 this).1
  exact List.mem_range.1 this
theorem begTo_get {S : List Sp} {n : Nat} {at_ : Int} {j : Nat} (h : j < (begTo S n at_).length) : ∃ r : Nat, (begL S n at_)[j]? = some r ∧ (begTo S n at_)[j]? = some (r : Int) := by
  unfold begTo at h ⊢
  rw [List.length_map] at h
  exact ⟨(begL S n at_)[j], List.getElem?_eq_getElem h, by rw [List.getElem?_map, List.getElem?_eq_getElem h]; rfl⟩
theorem begTo_len (S : List Sp) (n : Nat) (at_ : Int) : (begTo S n at_).length = (begL S n at_).length := by unfold begTo; rw [List.length_map]
theorem begTo_le (S : List Sp) (n : Nat) (at_ : Int) : (begTo S n at_).length ≤ n := by
  rw [begTo_len]
  unfold begL
  exact Nat.le_trans (List.length_filter_le _ _) (by simp)
end Go.Proofs.Ytlkkdpmloeipjaa
