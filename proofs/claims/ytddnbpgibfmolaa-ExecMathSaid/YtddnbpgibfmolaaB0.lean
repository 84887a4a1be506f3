/- What the texts of this seat share: blocks, boxes, ints of the call's own. -/
import Derived.Test.YtddnbpgibfmolaaA5
import Derived.Deep.RegionLaw
import Derived.ChangeKeysEq
import Derived.RegionTactic
import Derived.Deep.RegionHeld3
namespace Go.Proofs.Ytddnbpgibfmolaa
open Go.RowKit Go.Proofs.YtddnbpgibfmolaaW.PrintWords
set_option linter.unusedVariables false

theorem C_ints {k : IntKind} {w : World} {g : Nat} {cs : Array Value} {t : Nat} {l : List Int} (hb : w.heap[g]? = some (.cells cs t (0, 0))) (h : ∀ (j : Nat) (x : Int), l[j]? = some x → cs[j]? = some (Value.int k x)) (hl : l.length ≤ 9223372036854775807) :
    Kd.C (Kd.int k) w (some ⟨g, 0, none⟩) l.length l := by
  refine ⟨rfl, hl, fun _ => ⟨_, rfl, fun j p hj => ⟨[.int k p], rfl, rfl, fun i u hi => ?_⟩⟩⟩
  cases i with
  | zero =>
    have : u = Value.int k p := by simpa using hi.symm
    subst this
    show w.cell? (Addr.add ⟨g, 0, none⟩ (j * 1 + 0)) = _
    rw [Nat.mul_one, Nat.add_zero, add_plain, blk_cell hb, h j p hj]
  | succ i => simp at hi
theorem blk_new1 (w : World) (o1 o2 : Go.Obj) : ((w.alloc o1).alloc o2).heap[w.heap.size + 1]? = some o2 := by
  have := blk_new (w.alloc o1) o2
  rwa [World.size_alloc] at this
/-- A call's result that is a slice of ints, to be read only. -/
def RetInts (w : World) (l : List Int) (e : Ending) (w' : World) : Prop := ∃ A c, e = .returned (.slice A l.length c) ∧ l.length ≤ c ∧ Kd.C (Kd.int .i64) w' A l.length l ∧ Below w.heap.size w w'
def lenOk (t : Ty) : Bool := decide (0 ≤ t.len ∧ t.len ≤ 16)
theorem box_cells {w wr : World} {cs : Array Value} {t : TypeId} (h : Below (w.heap.size + 1) (w.alloc (.cells cs t (0, 0))) wr) (i : Nat) : wr.cell? ⟨w.heap.size, i, none⟩ = cs[i]? :=
  (h.cell (p := ⟨w.heap.size, i, none⟩) (Nat.lt_succ_self _)).trans (blk_cell (blk_new _ _) i)
theorem below_of_box {w wr : World} {o : Go.Obj} (h : Below (w.heap.size + 1) (w.alloc o) wr) : Below w.heap.size w wr :=
  (below_alloc (Below.refl _ _) o).trans (h.mono (by omega))
theorem box_start (w : World) (o : Go.Obj) : Below (w.heap.size + 1) (w.alloc o) (w.alloc o) := Below.refl _ _
theorem box_alloc {w wr : World} {o o' : Go.Obj} (h : Below (w.heap.size + 1) (w.alloc o) wr) : Below (w.heap.size + 1) (w.alloc o) (wr.alloc o') := h.alloc (by have := h.size; rw [World.size_alloc] at this; exact this) o'
theorem all_snoc {α : Type} {f : α → Bool} {xs : List α} {k : Nat} {x : α} (h : xs[k]? = some x) (ha : (xs.take k).all f = true) (hx : f x = true) : (xs.take (k + 1)).all f = true := by
  rw [take_snoc_at h, List.all_append, ha]; simp [hx]
theorem all_false {α : Type} {f : α → Bool} {xs : List α} {k : Nat} {x : α} (h : xs[k]? = some x) (hx : f x = false) : xs.all f = false := by
  rw [List.all_eq_false]; exact ⟨x, at_mem h, by simp [hx]⟩
set_option maxHeartbeats 1000000 in
theorem words_any (p : List Ty) (A : Option Addr) (c : Nat) (w : World) (hp : LensOk p) (hr : Kd.C kTy w A p.length p) :
    Calls Try.prog 39 #[.slice A p.length c] w fun e w' => e = .returned (.tuple #[.int .i64 (wordsN p), .int .i64 (cellsN p)]) ∧ Below w.heap.size w w' := by
  have HR := Aside0.mk hr
  have HP := Aside0.mk hp
  have hl := hp.1
  clear hr hp
  have hu := Try.underlying33
  go_enter Try.func39, Try.ntmps39
  go_wp2
  go_loopw [4, 5, 6] (fun v4 v5 v10 wr => ∃ k : Nat, k ≤ p.length ∧ v10 = .int .i64 k ∧ v4 = .int .i64 (wordsN (p.take k) : Nat) ∧ v5 = .int .i64 (cellsN (p.take k)) ∧ Aside0 (Below w.heap.size w wr)) (fun _ _ v10 _ => p.length - (intOf v10).toNat)
  case atStart => exact ⟨0, Nat.zero_le _, rfl, rfl, rfl, ⟨Below.refl _ _⟩⟩
  case round =>
    obtain ⟨k, hk, rfl, rfl, rfl, HB⟩ := hrel
    have hw := wordsN_le (p.take k)
    have hw2 : (p.take k).length ≤ k := List.length_take_le _ _
    have hc := cellsN_bd (p.take k) (fun t ht => HP.out.2 t (List.mem_of_mem_take ht))
    by_cases hlt : k < p.length
    · obtain ⟨t, ad, rfl, ht, h0, h1⟩ := nt_Ty HR.out HB.out k hlt
      have hrng := HP.out.2 _ (at_mem ht)
      have HW := Aside0.mk (wordsN_succ ht)
      have HCe := Aside0.mk (cellsN_succ ht)
      obtain ⟨s, len⟩ := t
      simp only at h0 h1 hrng HW HCe
      clear ht
      by_cases hz : len = 0
      · have hzb : (len == 0) = true := by simp [hz]
        have HZ := Aside0.mk hz
        clear hz
        go_wp2
        go_roundw
        case rel => exact ⟨k + 1, by omega, by go_num, by rw [HW.out, if_pos HZ.out]; go_num, by rw [HCe.out], HB⟩
        case measure => simp [intOf]; omega
      · have hzb : (len == 0) = false := by simp [hz]
        go_wp2
        go_roundw
        case rel => exact ⟨k + 1, by omega, by go_num, by rw [HW.out, if_neg hz]; go_num, by rw [HCe.out], HB⟩
        case measure => simp [intOf]; omega
    · go_wp2
      go_ret2
      exact ⟨ret_int2 (by rw [List.take_of_length_le (by omega)]) (by rw [List.take_of_length_le (by omega)]), HB.out⟩
theorem ret_i64 {a b : Int} (h : a = b) : Ending.returned (.int .i64 a) = .returned (.int .i64 b) := by rw [h]
theorem any_true {α : Type} {f : α → Bool} {xs : List α} {k : Nat} {x : α} (h : xs[k]? = some x) (hx : f x = true) : xs.any f = true :=
  List.any_eq_true.2 ⟨x, at_mem h, hx⟩
theorem any_snoc {α : Type} {f : α → Bool} {xs : List α} {k : Nat} {x : α} (h : xs[k]? = some x) (ha : (xs.take k).any f = false) (hx : f x = false) : (xs.take (k + 1)).any f = false := by
  rw [take_snoc_at h, List.any_append, ha]; simp [hx]
/-! ### ints of the call's own -/
/-- A slice of ints that the call itself has made. -/
abbrev OwnI (W : World) (base : Nat) (v : Value) (xs : List Int) : Prop := (Kd.int .i64).R 3 W base (fun _ => True) v xs
theorem own_empty {W : World} {base g : Nat} (h : W.heap[g]? = some (.cells #[] 3 (0, 0))) (hb : base ≤ g) : OwnI W base (.slice (some ⟨g, 0, none⟩) 0 0) [] :=
  Kd.R_of_own ⟨rfl, .inr ⟨g, 0, #[], rfl, hb, h, Nat.le_refl _, by simp [maxLen], rfl, rfl⟩⟩ (fun _ _ => trivial)
theorem infoI : (Try.prog.info? 3).map (fun i => (i.zero, i.size, i.bytes)) = some (some (.int .i64 0), 1, 8) := by kernel_rfl
section
variable {ops : Array Oper} {o : Oper} {a : Act} {Q : Exit → Act → World → Prop} {K : Act → World → Prop} {W w0 : World} {rest : List Oper}
/-- append(v, l...) of ints, as one step of a region that draws its order. -/
theorem step_app (base : Nat) (hgd : o.guard = none) (s x : Operand) (ho : o.op = .call { callee := .builtin .append, args := #[s, x], argTypes := #[46, 46] })
    (v : Value) (xs ys : List Int) (A : Option Addr) (c : Nat) (hs : a.eval s = v) (hx : a.eval x = .slice A ys.length c) (HO : OwnI W base v xs) (HC : Kd.C (Kd.int .i64) W A ys.length ys) (HB : Below base w0 W) (hbase : base ≤ W.heap.size) (hl : xs.length + ys.length ≤ 100000)
    (h : ∀ v1 w1, OwnI w1 base v1 (xs ++ ys) → Below base w0 w1 → W.grownBy w1 v.ownBlock → K (a.put o.dst v1) w1) :
    if Region.wanted o (yielded ops a.tmps) = true then Oper.wp Try.prog o a W K Q else K (a.put o.dst undef) W := by
  refine Kd.R_append_rows_step (Kd.int .i64) (Rr := fun y cs => cs = [.int .i64 y]) (w0 := w0) base (by simp [Region.wanted, hgd]) s x 46 3 (.int .i64 0) 8 ho Try.underlying46 infoI rfl (by decide) (by decide) v xs ys A ys.length c (fun _ => True) (fun _ => False) hs hx HO HC (fun _ _ h => h) (fun _ h => h.elim) (fun _ _ => trivial) HB hbase (by omega) ?_
  intro v1 w1 h1 h2 h3 _
  exact h v1 w1 h1 h2 h3
/-- append(v, l...) of ints, in a plain region. -/
theorem list_app (base : Nat) (hgd : o.guard = none) (s x : Operand) (ho : o.op = .call { callee := .builtin .append, args := #[s, x], argTypes := #[46, 46] })
    (v : Value) (xs ys : List Int) (A : Option Addr) (c : Nat) (hs : a.eval s = v) (hx : a.eval x = .slice A ys.length c) (HO : OwnI W base v xs) (HC : Kd.C (Kd.int .i64) W A ys.length ys) (HB : Below base w0 W) (hbase : base ≤ W.heap.size) (hl : xs.length + ys.length ≤ 1000000)
    (h : ∀ v1 w1, OwnI w1 base v1 (xs ++ ys) → Below base w0 w1 → W.grownBy w1 v.ownBlock → wpList Try.prog ops Q rest (a.put o.dst v1) w1) :
    wpList Try.prog ops Q (o :: rest) a W := by
  refine Kd.R_append_rows (Kd.int .i64) (Rr := fun y cs => cs = [.int .i64 y]) (w0 := w0) base hgd s x 46 3 (.int .i64 0) 8 ho Try.underlying46 infoI rfl (by decide) (by decide) v xs ys A ys.length c (fun _ => True) (fun _ => False) hs hx HO HC (fun _ _ h => h) (fun _ h => h.elim) (fun _ _ => trivial) HB hbase (by omega) ?_
  intro v1 w1 h1 h2 h3 _
  exact h v1 w1 h1 h2 h3
end
theorem C_one {w : World} {g : Nat} {d : Int} (hb : w.heap[g]? = some (.cells #[.int .i64 d] 3 (0, 0))) : Kd.C (Kd.int .i64) w (some ⟨g, 0, none⟩) [d].length [d] :=
  C_ints hb (fun j x hj => by cases j with | zero => simpa using hj | succ j => simp at hj) (by simp)
section
variable {w wr w2 : World} {o1 o2 : Go.Obj} {cs1 cs2 : Array Value} {t1 t2 : TypeId}
theorem box2_of (h : Below ((w.alloc o1).alloc o2).heap.size ((w.alloc o1).alloc o2) wr) : Below (w.heap.size + 2) ((w.alloc o1).alloc o2) wr := by
  simpa using h
theorem box2_step (h : Below (w.heap.size + 2) ((w.alloc o1).alloc o2) wr) (h2 : Below wr.heap.size wr w2) : Below (w.heap.size + 2) ((w.alloc o1).alloc o2) w2 :=
  h.trans (h2.mono (by have := h.size; simp at this; omega))
theorem box2_fst (h : Below (w.heap.size + 2) ((w.alloc (.cells cs1 t1 (0, 0))).alloc o2) wr) (j : Nat) : wr.cell? ⟨w.heap.size, j, none⟩ = cs1[j]? := by
  rw [h.cell (p := ⟨w.heap.size, j, none⟩) (by show w.heap.size < w.heap.size + 2; omega)]
  exact (blk_cell (blk_alloc (blk_new w _) o2) j)
theorem box2_snd (h : Below (w.heap.size + 2) ((w.alloc o1).alloc (.cells cs2 t2 (0, 0))) wr) (j : Nat) : wr.cell? ⟨w.heap.size + 1, j, none⟩ = cs2[j]? := by
  rw [h.cell (p := ⟨w.heap.size + 1, j, none⟩) (by show w.heap.size + 1 < w.heap.size + 2; omega)]
  exact (blk_cell (blk_new1 w o1 _) j)
theorem box2_below (h : Below (w.heap.size + 2) ((w.alloc o1).alloc o2) wr) : Below w.heap.size w wr :=
  (below_alloc (below_alloc (Below.refl _ _) o1) o2).trans (h.mono (by omega))
end
theorem box_step {w wr w2 : World} {o : Go.Obj} (h : Below (w.heap.size + 1) (w.alloc o) wr) (h2 : Below wr.heap.size wr w2) : Below (w.heap.size + 1) (w.alloc o) w2 :=
  h.trans (h2.mono (by have := h.size; rw [World.size_alloc] at this; exact this))
/-- '==' of two spans. -/
theorem infoInt : ∃ i, Try.prog.info? 3 = some i := by
  cases h : Try.prog.info? 3 with
  | some i => exact ⟨i, rfl⟩
  | none => have := infoI; rw [h] at this; simp at this
theorem partInt (xs : Array Value) (i : Nat) (v : Value) (w : World) (h : xs[i]? = some v) : (part 3 xs i).run Try.prog w = .ok v w := by
  obtain ⟨inf, hi⟩ := infoInt
  have h2 := infoI
  rw [hi] at h2
  simp only [Option.map_some, Option.some.injEq, Prod.mk.injEq] at h2
  simp [part, h, sizeOf, typeInfo, hi, isAgg, Try.isAgg3]
/-- A row that lies in a block. -/
theorem C_blk {α : Type} {d : Kd α} {w : World} {g : Nat} {cs : Array Value} {t : TypeId} {xs : List α} (hb : w.heap[g]? = some (.cells cs t (0, 0))) (h : Reps (d.K w) d.sz xs cs.toList) (hl : xs.length ≤ 9223372036854775807) :
    Kd.C d w (some ⟨g, 0, none⟩) xs.length xs := by
  refine ⟨rfl, hl, fun _ => ⟨_, rfl, fun j p hj => ⟨(cs.toList.drop (j * d.sz)).take d.sz, ?_, h.2 j p hj, fun i u hi => ?_⟩⟩⟩
  · exact d.K_len (h.2 j p hj)
  · rw [add_plain, blk_cell hb]
    rw [List.getElem?_take] at hi
    split at hi
    · rw [List.getElem?_drop] at hi
      rw [← Array.getElem?_toList]; exact hi
    · exact absurd hi (by simp)
section
variable {ops : Array Oper} {o : Oper} {a : Act} {Q : Exit → Act → World → Prop} {K : Act → World → Prop} {W w0 : World}
theorem step_plain (hgd : o.guard = none) (h : Oper.wp Try.prog o a W K Q) : if Region.wanted o (yielded ops a.tmps) = true then Oper.wp Try.prog o a W K Q else K (a.put o.dst undef) W := by
  rw [if_pos (by simp [Region.wanted, hgd])]; exact h
end
end Go.Proofs.Ytddnbpgibfmolaa
