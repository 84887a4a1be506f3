/- A function that is built in a box of the call's own: instructions without arguments are appended. -/
import Derived.Test.YtlkkdpmloeipjaaS2
import Derived.OwnWalk
namespace Go.Proofs.Ytlkkdpmloeipjaa
open Go.RowKit Go.Proofs.YtlkkdpmloeipjaaW.PrintWords
set_option linter.unusedVariables false

/-- A slice of instructions that the call itself has made. -/
abbrev OwnQ (W : World) (base : Nat) (v : Value) (xs : List Ir) : Prop := kIr.R 33 W base (fun _ => True) v xs
theorem info_irq : (Try.prog.info? 33).map (fun i => (i.zero, i.size, i.bytes)) = some (some (.agg #[.int .i64 0, .int .i64 0, .int .i64 0, .int .i64 0, .int .i64 0, .int .i64 0, .int .u32 0, .string ByteArray.empty, .slice none 0 0]), 9, 96) := by kernel_rfl
/-- An instruction without arguments, as it lies in a new block. -/
def bareQ (x : Ir) (cs : List Value) : Prop := x.args = [] ∧ cs = [.int .i64 x.kind, .int .i64 x.op, .int .i64 x.d, .int .i64 x.a, .int .i64 x.b, .int .i64 x.c, .int .u32 x.n, .string x.name, .slice none 0 0]
theorem bare_rowq {w : World} {g : Nat} {x : Ir} (hx : x.args = []) (hb : w.heap[g]? = some (.cells #[.int .i64 x.kind, .int .i64 x.op, .int .i64 x.d, .int .i64 x.a, .int .i64 x.b, .int .i64 x.c, .int .u32 x.n, .string x.name, .slice none 0 0] 33 (0, 0))) :
    ReadsRow bareQ 9 w (some ⟨g, 0, none⟩) 1 [x] := by
  refine ⟨rfl, by decide, fun _ => ⟨_, rfl, fun j p hj => ?_⟩⟩
  match j, hj with
  | 0, hj =>
    obtain rfl : x = p := Option.some.inj hj
    refine ⟨_, rfl, ⟨hx, rfl⟩, fun i u hi => ?_⟩
    rw [add_plain, blk_cell hb]
    rw [Nat.zero_mul, Nat.zero_add, ← Array.getElem?_toList]
    exact hi
  | j + 1, hj => simp at hj
section
variable {ops : Array Oper} {o : Oper} {a : Act} {Q : Exit → Act → World → Prop} {K : Act → World → Prop} {W w0 : World} {rest : List Oper}
/-- append(v, x) of an instruction without arguments, in a plain region. -/
theorem ir_appq (base : Nat) (hgd : o.guard = none) (s y : Operand) (ho : o.op = .call { callee := .builtin .append, args := #[s, y], argTypes := #[23, 23] })
    (v : Value) (xs : List Ir) (x : Ir) (g c : Nat) (hs : a.eval s = v) (hy : a.eval y = .slice (some ⟨g, 0, none⟩) 1 c) (HO : OwnQ W base v xs) (hx : x.args = []) (hb : W.heap[g]? = some (.cells #[.int .i64 x.kind, .int .i64 x.op, .int .i64 x.d, .int .i64 x.a, .int .i64 x.b, .int .i64 x.c, .int .u32 x.n, .string x.name, .slice none 0 0] 33 (0, 0)))
    (HB : Below base w0 W) (hbase : base ≤ W.heap.size) (hl : xs.length ≤ 1000000)
    (h : ∀ v1 w1, OwnQ w1 base v1 (xs ++ [x]) → Below base w0 w1 → W.grownBy w1 v.ownBlock → wpList Try.prog ops Q rest (a.put o.dst v1) w1) :
    wpList Try.prog ops Q (o :: rest) a W := by
  refine Kd.R_append_rows kIr (Rr := bareQ) (w0 := w0) base hgd s y 23 33 _ 96 ho Try.underlying23 info_irq rfl (by decide) (by decide) v xs [x] (some ⟨g, 0, none⟩) 1 c (fun _ => True) (fun _ => False) hs hy HO (bare_rowq hx hb) (fun x cs h => by rw [h.2]; exact kIr_mkM _ _ _ x (by rw [h.1]; exact Kd.R_nil _ _ _ _ _)) (fun _ h => h.elim) (fun _ _ => trivial) HB hbase (by omega) ?_
  intro v1 w1 h1 h2 h3 _
  exact h v1 w1 h1 h2 h3
end
/-- What the walk keeps: the function's box b, its instructions of its own. -/
structure BuW (w wp wr : World) (b : Nat) (R : Int) (v : Value) (xs : List Ir) : Prop where
  base : wp.heap.size = b
  pre : Below w.heap.size w wp
  below : Below b wp wr
  box : wr.heap[b]? = some (.cells #[.string ⟨#[97, 46, 102]⟩, .slice none 0 0, .int .i64 R, .int .i64 0, v] 25 (0, 0))
  own : OwnQ wr b v xs
section
variable {w wp wr w1 : World} {b : Nat} {R : Int} {v v1 : Value} {xs ys : List Ir}
theorem BuW.alloc (h : BuW w wp wr b R v xs) (o : Go.Obj) : BuW w wp (wr.alloc o) b R v xs := by
  have e := h.base
  subst e
  exact ⟨rfl, h.pre, below_alloc h.below o, blk_alloc h.box o, Kd.R_alloc h.own o⟩
theorem BuW.step (h : BuW w wp wr b R v xs) (hR : OwnQ w1 b v1 ys) (hB : Below b wp w1) (hg : wr.grownBy w1 v.ownBlock) : BuW w wp (w1.setCell ⟨b, 4, none⟩ v1) b R v1 ys := by
  have e := h.base
  subst e
  have hb1 := (hg.block wp.heap.size (blk_lt h.box) (Kd.R_ne h.own h.box (by decide))).trans h.box
  exact ⟨rfl, h.pre, below_set hB (Nat.le_refl _), blk_put hb1 4 v1 rfl, Kd.R_set hR hb1 (by decide) 4 v1⟩
theorem BuW.boxed (h : BuW w wp wr b R v xs) (hB : Below b wp w1) (hg : wr.grownBy w1 v.ownBlock) : w1.heap[b]? = some (.cells #[.string ⟨#[97, 46, 102]⟩, .slice none 0 0, .int .i64 R, .int .i64 0, v] 25 (0, 0)) :=
  (hg.block b (blk_lt h.box) (Kd.R_ne h.own h.box (by decide))).trans h.box
theorem BuW.all (h : BuW w wp wr b R v xs) : Below w.heap.size w wr := h.pre.trans (h.below.mono (by have := h.pre.size; have := h.base; omega))
/-- The box, read. -/
theorem BuW.cells (h : BuW w wp wr b R v xs) : wr.cell? ⟨b, 0, none⟩ = some (.string ⟨#[97, 46, 102]⟩) ∧ wr.cell? ⟨b, 1, none⟩ = some (.slice none 0 0) ∧ wr.cell? ⟨b, 2, none⟩ = some (.int .i64 R) ∧ wr.cell? ⟨b, 3, none⟩ = some (.int .i64 0) ∧ wr.cell? ⟨b, 4, none⟩ = some v :=
  ⟨blk_cell h.box 0, blk_cell h.box 1, blk_cell h.box 2, blk_cell h.box 3, blk_cell h.box 4⟩
/-- The function, read whole. -/
theorem BuW.code {A4 : Option Addr} {m c4 : Nat} (h : BuW w wp wr b R (.slice A4 m c4) xs) (hm : m = xs.length) : CodeAt wr ⟨⟨#[97, 46, 102]⟩, [], R, 0, xs⟩ none 0 A4 c4 := by
  subst hm
  obtain ⟨A, c, e, hle, hC⟩ := Kd.R_reads h.own
  injection e with e1 _ e3
  subst e1 e3
  exact ⟨Kd.C_nil _ _, Nat.le_refl _, hC, hle⟩
theorem BuW.slice (h : BuW w wp wr b R v xs) : ∃ A c, v = .slice A xs.length c := by
  obtain ⟨A, c, e, _, _⟩ := Kd.R_reads h.own
  exact ⟨A, c, e⟩
end
end Go.Proofs.Ytlkkdpmloeipjaa
