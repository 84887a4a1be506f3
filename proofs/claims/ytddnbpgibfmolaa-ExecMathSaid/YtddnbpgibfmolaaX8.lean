/- A run's memory: leaks that are appended; exec.Run's function that keeps them. -/
import Derived.Test.YtddnbpgibfmolaaX2
import Derived.Test.YtddnbpgibfmolaaM7
import Derived.Test.YtddnbpgibfmolaaM10
import Derived.OwnWalk
namespace Go.Proofs.Ytddnbpgibfmolaa
open Go.RowKit Go.Proofs.YtddnbpgibfmolaaW.PrintWords
set_option linter.unusedVariables false

/-- A slice of leaks that the call itself has made. -/
abbrev OwnL (W : World) (base : Nat) (v : Value) (xs : List Leak) : Prop := kLeak.R 48 W base (fun _ => True) v xs
theorem info_lk : (Try.prog.info? 48).map (fun i => (i.zero, i.size, i.bytes)) = some (some (.agg #[.int .i64 0, .int .i64 0]), 2, 16) := by kernel_rfl
theorem C_lk1 {w : World} {g : Nat} {s : Leak} (hb : w.heap[g]? = some (.cells #[.int .i64 s.pos, .int .i64 s.cell] 48 (0, 0))) : Kd.C kLeak w (some ⟨g, 0, none⟩) [s].length [s] := by
  refine C_blk (xs := [s]) hb ⟨rfl, fun j p hj => ?_⟩ (by simp)
  match j, hj with
  | 0, hj =>
    obtain rfl : s = p := Option.some.inj hj
    exact kLeak_mk w s
  | j + 1, hj => simp at hj
section
variable {ops : Array Oper} {o : Oper} {a : Act} {Q : Exit → Act → World → Prop} {K : Act → World → Prop} {W w0 : World} {rest : List Oper}
/-- append(v, l...) of leaks, in a plain region. -/
theorem lk_app (base : Nat) (hgd : o.guard = none) (s x : Operand) (ho : o.op = .call { callee := .builtin .append, args := #[s, x], argTypes := #[39, 39] })
    (v : Value) (xs ys : List Leak) (A : Option Addr) (c : Nat) (hs : a.eval s = v) (hx : a.eval x = .slice A ys.length c) (HO : OwnL W base v xs) (HC : Kd.C kLeak W A ys.length ys) (HB : Below base w0 W) (hbase : base ≤ W.heap.size) (hl : xs.length + ys.length ≤ 2000000)
    (h : ∀ v1 w1, OwnL w1 base v1 (xs ++ ys) → Below base w0 w1 → W.grownBy w1 v.ownBlock → wpList Try.prog ops Q rest (a.put o.dst v1) w1) :
    wpList Try.prog ops Q (o :: rest) a W := by
  refine Kd.R_append_rows kLeak (Rr := kLeak.K W) (w0 := w0) base hgd s x 39 48 (.agg #[.int .i64 0, .int .i64 0]) 16 ho Try.underlying39 info_lk rfl (by decide) (by decide) v xs ys A ys.length c (fun _ => True) (fun _ => False) hs hx HO HC (fun x cs h => by rw [kLeak_open h]; exact kLeak_mkM ..) (fun _ h => h.elim) (fun _ _ => trivial) HB hbase (by omega) ?_
  intro v1 w1 h1 h2 h3 _
  exact h v1 w1 h1 h2 h3
end

/-- The cells of a run's box. -/
def machC (cv mv bv : Value) (r : List Int) (p : Int) (over far : Bool) : Array Value := #[cv, mv, .int .u32 (gt r 0), .int .u32 (gt r 1), .int .u32 (gt r 2), .int .u32 (gt r 3), .int .u32 (gt r 4), .int .u32 (gt r 5), .int .u32 (gt r 6), .int .u32 (gt r 7), bv, .int .i64 p, .bool over, .bool far]
/-- A run as it lies in memory: its box g, its memory's row gm, the row of those who wait, the leaks' box gl and row; all from B on. -/
structure MW (w0 w : World) (B g gl gm : Nat) (cv bv lv : Value) (s : MSt) (out : List Leak) : Prop where
  below : Below B w0 w
  hB : B ≤ w.heap.size
  bg : B ≤ g
  bl : B ≤ gl
  bm : B ≤ gm
  box : w.heap[g]? = some (.cells (machC cv (.slice (some ⟨gm, 0, none⟩) s.mem.length s.mem.length) bv s.regs s.pos s.over s.far) 76 (0, 0))
  mrow : w.heap[gm]? = some (.cells (s.mem.map (Value.int .u32)).toArray 25 (0, 0))
  back : OwnI w B bv s.back
  lbox : w.heap[gl]? = some (.cells #[lv] 39 (0, 0))
  lrow : OwnL w B lv out
section
variable {w0 w w1 : World} {B g gl gm : Nat} {cv bv lv : Value} {s : MSt} {out : List Leak}
theorem MW.same (h : MW w0 w B g gl gm cv bv lv s out) (hb : Below w.heap.size w w1) : MW w0 w1 B g gl gm cv bv lv s out :=
  ⟨h.below.trans (hb.mono h.hB), Nat.le_trans h.hB hb.size, h.bg, h.bl, h.bm, blk_below h.box hb, blk_below h.mrow hb, Kd.R_below h.back hb, blk_below h.lbox hb, Kd.R_below h.lrow hb⟩
theorem sz_set (w : World) (a : Addr) (v : Value) : (w.setCell a v).heap.size = w.heap.size := by simp [World.setCell]
theorem MW.alloc (h : MW w0 w B g gl gm cv bv lv s out) (o : Go.Obj) : MW w0 (w.alloc o) B g gl gm cv bv lv s out := h.same (below_alloc (Below.refl _ _) o)
theorem MW.drew (h : MW w0 w B g gl gm cv bv lv s out) : MW w0 w.drew B g gl gm cv bv lv s out := h.same (below_drew1 (Below.refl _ _))
theorem MW.drewN (h : MW w0 w B g gl gm cv bv lv s out) (n : Nat) : MW w0 (w.drewN n) B g gl gm cv bv lv s out := h.same (pw_below_drewN (Below.refl _ _) n)
theorem MW.upd (h : MW w0 w B g gl gm cv bv lv s out) {j : Nat} {u : Value} {r : List Int} {p : Int} {ov fr : Bool}
    (e : (machC cv (.slice (some ⟨gm, 0, none⟩) s.mem.length s.mem.length) bv s.regs s.pos s.over s.far).setIfInBounds j u = machC cv (.slice (some ⟨gm, 0, none⟩) s.mem.length s.mem.length) bv r p ov fr) :
    MW w0 (w.setCell ⟨g, j, none⟩ u) B g gl gm cv bv lv ⟨r, s.mem, s.back, p, ov, fr⟩ out := by
  have hb := blk_put h.box j u rfl
  rw [e] at hb
  exact ⟨h.below.setCell h.bg _, by rw [sz_set]; exact h.hB, h.bg, h.bl, h.bm, hb, blk_far h.mrow (blk_ne h.mrow h.box (by decide)) _, Kd.R_set h.back h.box (by decide) j u, blk_far h.lbox (blk_ne h.lbox h.box (by decide)) _, Kd.R_set h.lrow h.box (by decide) j u⟩
theorem gt_pt (l : List Int) (d : Nat) (v : Int) (i : Nat) (hd : d < l.length) : gt (pt l d v) i = if d = i then v else gt l i := by
  show ((l.set (d : Int).toNat v)[(i : Int).toNat]?).getD 0 = _
  rw [Int.toNat_natCast, Int.toNat_natCast, List.getElem?_set]
  by_cases h : d = i
  · subst h; simp [hd]
  · rw [if_neg h, if_neg h]; rfl
theorem mach_reg {mv : Value} {r : List Int} {p v : Int} {ov fr : Bool} {d : Nat} (hl : r.length = 8) (hd : d < 8) : (machC cv mv bv r p ov fr).setIfInBounds (2 + d) (.int .u32 v) = machC cv mv bv (pt r d v) p ov fr := by
  have hg : ∀ i : Nat, gt (pt r d v) i = if d = i then v else gt r i := fun i => gt_pt r d v i (by omega)
  unfold machC
  rw [show ((0 : Int)) = ((0 : Nat) : Int) from rfl, show ((1 : Int)) = ((1 : Nat) : Int) from rfl, show ((2 : Int)) = ((2 : Nat) : Int) from rfl, show ((3 : Int)) = ((3 : Nat) : Int) from rfl, show ((4 : Int)) = ((4 : Nat) : Int) from rfl, show ((5 : Int)) = ((5 : Nat) : Int) from rfl, show ((6 : Int)) = ((6 : Nat) : Int) from rfl, show ((7 : Int)) = ((7 : Nat) : Int) from rfl]
  rw [hg 0, hg 1, hg 2, hg 3, hg 4, hg 5, hg 6, hg 7]
  rcases (show d = 0 ∨ d = 1 ∨ d = 2 ∨ d = 3 ∨ d = 4 ∨ d = 5 ∨ d = 6 ∨ d = 7 by omega) with rfl | rfl | rfl | rfl | rfl | rfl | rfl | rfl <;> rfl
theorem mach_get {mv : Value} {r : List Int} {p : Int} {ov fr : Bool} {d : Nat} (hd : d < 8) : (machC cv mv bv r p ov fr)[2 + d]? = some (.int .u32 (gt r d)) := by
  rcases (show d = 0 ∨ d = 1 ∨ d = 2 ∨ d = 3 ∨ d = 4 ∨ d = 5 ∨ d = 6 ∨ d = 7 by omega) with rfl | rfl | rfl | rfl | rfl | rfl | rfl | rfl <;> rfl
theorem own_apart {α β : Type} {d : Kd α} {d' : Kd β} {e e' : Nat} {W : World} {xs : List α} {ys : List β} {v v' : Value} (h : d.R e W B (fun _ => True) v xs) (h' : d'.R e' W B (fun _ => True) v' ys) (ht : ∀ q, q ∈ e :: d.E → q ≠ e') (hg : W.grownBy w1 v'.ownBlock) : d.R e w1 B (fun _ => True) v xs := by
  cases hj : v'.ownBlock with
  | none => rw [hj] at hg; exact Kd.R_grown h hg (fun k _ => by simp)
  | some j =>
    obtain ⟨inner, ho⟩ := Kd.R_own h'
    obtain ⟨cells, hc⟩ := own_typed ho j hj
    rw [hj] at hg
    exact Kd.R_mono (Kd.R_grown (Kd.R_types h hc ht) hg (fun k hk => by simpa using hk.2)) (fun _ _ => trivial)
theorem MW.leaks {W : World} {v1 : Value} {x : Leak} (h : MW w0 w B g gl gm cv bv lv s out) (hb : Below w.heap.size w W) (hR : OwnL w1 B v1 (out ++ [x])) (hB : Below B w0 w1) (hg : W.grownBy w1 lv.ownBlock) : MW w0 (w1.setCell ⟨gl, 0, none⟩ v1) B g gl gm cv bv v1 s (out ++ [x]) ∧ w1.heap[gl]? = some (.cells #[lv] 39 (0, 0)) := by
  have h' := h.same hb
  have hsz := hg.size
  have b1 := blk_grown h'.box hg (Kd.R_ne h'.lrow h'.box (by decide))
  have b2 := blk_grown h'.mrow hg (Kd.R_ne h'.lrow h'.mrow (by decide))
  have b3 := blk_grown h'.lbox hg (Kd.R_ne h'.lrow h'.lbox (by decide))
  have b4 := own_apart h'.back h'.lrow (by decide) hg
  refine ⟨⟨hB.setCell h.bl _, ?_, h.bg, h.bl, h.bm, blk_far b1 (blk_ne b1 b3 (by decide)) _, blk_far b2 (blk_ne b2 b3 (by decide)) _, Kd.R_set b4 b3 (by decide) 0 _, blk_put b3 0 v1 rfl, Kd.R_set hR b3 (by decide) 0 _⟩, b3⟩
  rw [sz_set]
  exact Nat.le_trans h'.hB hsz
end
set_option maxRecDepth 100000 in
set_option maxHeartbeats 4000000 in
theorem keep_any (x : Leak) (w0 w : World) (B g gl gm : Nat) (cv bv lv : Value) (s : MSt) (out : List Leak) (h : MW w0 w B g gl gm cv bv lv s out) (hl : out.length ≤ 1500000) :
    Calls Try.prog 36 #[.agg #[.int .i64 x.pos, .int .i64 x.cell], .pointer (some ⟨gl, 0, none⟩)] w fun e w' => e = .returned (.tuple #[]) ∧ ∃ lv', MW w0 w' B g gl gm cv bv lv' s (out ++ [x]) := by
  have hu := Try.underlying48
  have H := Aside0.mk h
  have hlb : w.cell? ⟨gl, 0, none⟩ = some lv := blk_cell h.lbox 0
  have hlt := blk_lt h.lbox
  clear h
  obtain ⟨pos, cell⟩ := x
  simp only at *
  have H2 := Aside0.mk (H.out.same (below_alloc (below_alloc (Below.refl w.heap.size w) (.cells #[.int .i64 pos, .int .i64 cell] 48 (0, 0))) (.cells #[.int .i64 pos, .int .i64 cell] 48 (0, 0))))
  go_enter Try.func36, Try.ntmps36
  go_wp2_with (at_builtin; refine lk_app B rfl (.tmp 3) (.tmp 5) rfl lv out [⟨pos, cell⟩] _ _ rfl rfl H2.out.lrow (C_lk1 (s := ⟨pos, cell⟩) (blk_new1 _ _ _)) (w0 := w0) H2.out.below H2.out.hB (by simp; omega) ?_; intro v1 w1 hR1 hB1 hg1; obtain ⟨hM1, hb3⟩ := H2.out.leaks (Below.refl _ _) hR1 hB1 hg1; obtain ⟨A4, c4, e5, hc4, _⟩ := Kd.R_reads hR1; have HM1 := Aside0.mk hM1; subst e5; have q1 : w1.cell? ⟨gl, 0, none⟩ = some lv := blk_cell hb3 0; have q2 := blk_frozen hb3 0; clear hR1 hB1 hg1 hb3 hM1)
  go_end0
  have hm := HM1.out
  have e1 : (out ++ [(⟨pos, cell⟩ : Leak)]).length = out.length + 1 := by simp
  rw [e1] at hm
  exact ⟨rfl, _, hm⟩
end Go.Proofs.Ytddnbpgibfmolaa
