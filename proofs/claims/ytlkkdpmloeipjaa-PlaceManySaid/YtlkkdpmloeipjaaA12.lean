/- span.uses, with the closure of span.Spans. -/
import Derived.Test.YtlkkdpmloeipjaaA11
namespace Go.Proofs.Ytlkkdpmloeipjaa
open Go.RowKit Go.Proofs.YtlkkdpmloeipjaaW.PrintWords
set_option linter.unusedVariables false

/-- The closure's variables. -/
structure ClW (w : World) (b5 b7 b10 g cap : Nat) (words i : Int) (sp : List Sp) : Prop where
  h5 : w.heap[b5]? = some (.cells #[.slice (some ⟨g, 0, none⟩) sp.length cap] 40 (0, 0))
  h7 : w.heap[b7]? = some (.cells #[.int .i64 words] 3 (0, 0))
  h10 : w.heap[b10]? = some (.cells #[.int .i64 i] 3 (0, 0))
  hg : SpRow w g sp
theorem blk_ne {w : World} {b g : Nat} {cs cs' : Array Value} {t t' : TypeId} (h : w.heap[b]? = some (.cells cs t (0, 0))) (h' : w.heap[g]? = some (.cells cs' t' (0, 0))) (ht : t ≠ t') : b ≠ g := by
  rintro rfl
  rw [h] at h'
  injection h' with h'
  injection h' with _ h'
  exact ht h'
section
variable {w w1 : World} {b5 b7 b10 g cap : Nat} {words i : Int} {sp : List Sp}
theorem ClW.n5 (h : ClW w b5 b7 b10 g cap words i sp) : b5 ≠ g := by obtain ⟨c, hc⟩ := h.hg.blk; exact blk_ne h.h5 hc (by decide)
theorem ClW.n7 (h : ClW w b5 b7 b10 g cap words i sp) : b7 ≠ g := by obtain ⟨c, hc⟩ := h.hg.blk; exact blk_ne h.h7 hc (by decide)
theorem ClW.n10 (h : ClW w b5 b7 b10 g cap words i sp) : b10 ≠ g := by obtain ⟨c, hc⟩ := h.hg.blk; exact blk_ne h.h10 hc (by decide)
theorem ClW.below (h : ClW w b5 b7 b10 g cap words i sp) (hb : Below w.heap.size w w1) : ClW w1 b5 b7 b10 g cap words i sp :=
  ⟨(hb.block _ (blk_lt h.h5)).trans h.h5, (hb.block _ (blk_lt h.h7)).trans h.h7, (hb.block _ (blk_lt h.h10)).trans h.h10, h.hg.below hb⟩
theorem touchSp_length (words i : Int) (sp : List Sp) (r : Int) : (touchSp words i sp r).length = sp.length := by simp [touchSp]
theorem ClW.grown {sp' : List Sp} (h : ClW w b5 b7 b10 g cap words i sp) (hl : sp'.length = sp.length) (hg : w.grownBy w1 (some g)) (hs : SpRow w1 g sp') : ClW w1 b5 b7 b10 g cap words i sp' :=
  ⟨by rw [hl]; exact (hg.block _ (blk_lt h.h5) (by simpa using h.n5)).trans h.h5, (hg.block _ (blk_lt h.h7) (by simpa using h.n7)).trans h.h7, (hg.block _ (blk_lt h.h10) (by simpa using h.n10)).trans h.h10, hs⟩
theorem ClW.touch (h : ClW w b5 b7 b10 g cap words i sp) (r : Int) (h0 : 0 ≤ r) (h1 : r < sp.length) :
    Calls Try.prog 47 #[.int .i64 r, .pointer (some ⟨b5, 0, none⟩), .pointer (some ⟨b7, 0, none⟩), .pointer (some ⟨b10, 0, none⟩)] w fun e w' => e = .returned (.tuple #[]) ∧ ClW w' b5 b7 b10 g cap words i (touchSp words i sp r) ∧ w.grownBy w' (some g) := by
  obtain ⟨n, rfl⟩ := Int.eq_ofNat_of_zero_le h0
  have hn : n < sp.length := by omega
  refine (touch_any sp n sp[n] words i b5 b7 b10 g cap w (List.getElem?_eq_getElem hn) (blk_cell h.h5 0) (blk_cell h.h7 0) (blk_cell h.h10 0) h.n5 h.n7 h.n10 h.hg).mono ?_
  rintro e w' ⟨rfl, hs, hgr⟩
  exact ⟨rfl, h.grown (touchSp_length _ _ _ _) hgr hs, hgr⟩
end
theorem addr_block (a : Addr) (k : Nat) : (a.add k).block = a.block := by unfold Addr.add; split <;> rfl
theorem foldl_length (words i : Int) (l : List Int) (sp : List Sp) : (l.foldl (touchSp words i) sp).length = sp.length := by
  induction l generalizing sp with
  | nil => rfl
  | cons a l ih => rw [List.foldl_cons, ih, touchSp_length]
/-- The box of an instruction, behind a store into another block. -/
theorem ir_cells {w : World} {b : Nat} {x : Ir} {A : Option Addr} {cp : Nat} (h : w.heap[b]? = some (.cells #[.int .i64 x.kind, .int .i64 x.op, .int .i64 x.d, .int .i64 x.a, .int .i64 x.b, .int .i64 x.c, .int .u32 x.n, .string x.name, .slice A x.args.length cp] 33 (0, 0))) :
    w.cell? ⟨b, 0, none⟩ = some (.int .i64 x.kind) ∧ w.cell? ⟨b, 2, none⟩ = some (.int .i64 x.d) ∧ w.cell? ⟨b, 3, none⟩ = some (.int .i64 x.a) ∧ w.cell? ⟨b, 4, none⟩ = some (.int .i64 x.b) ∧ w.cell? ⟨b, 5, none⟩ = some (.int .i64 x.c) ∧ w.cell? ⟨b, 8, none⟩ = some (.slice A x.args.length cp) :=
  ⟨blk_cell h 0, blk_cell h 2, blk_cell h 3, blk_cell h 4, blk_cell h 5, blk_cell h 8⟩

set_option maxHeartbeats 4000000 in
set_option maxRecDepth 100000 in
theorem uses_1 (op d a b c n : Int) (name : ByteArray) (args : List Int) (A : Option Addr) (cp b5 b7 b10 g cap : Nat) (words i : Int) (sp : List Sp) (w : World) (hw : ClW w b5 b7 b10 g cap words i sp)
    (hr : ∀ r ∈ usesL ⟨1, op, d, a, b, c, n, name, args⟩, 0 ≤ r ∧ r < sp.length) :
    Calls Try.prog 46 #[.agg #[.int .i64 1, .int .i64 op, .int .i64 d, .int .i64 a, .int .i64 b, .int .i64 c, .int .u32 n, .string name, .slice A args.length cp], .func (.func 47) #[] #[.pointer (some ⟨b5, 0, none⟩), .pointer (some ⟨b7, 0, none⟩), .pointer (some ⟨b10, 0, none⟩)]] w fun e w' => e = .returned (.tuple #[]) ∧ ClW w' b5 b7 b10 g cap words i ((usesL ⟨1, op, d, a, b, c, n, name, args⟩).foldl (touchSp words i) sp) ∧ w.grownBy w' (some g) := by
  have hL : usesL ⟨1, op, d, a, b, c, n, name, args⟩ = [d] := by simp [usesL, readsL, writesB]
  rw [hL] at hr ⊢
  have HL := Aside0.mk hr
  clear hr hL
  have hlt := hw.hg.lt
  have HW := Aside0.mk hw
  clear hw
  have hu := Try.underlying33
  have HC0 := Aside0.mk (HW.out.below (below_alloc (Below.refl _ _) (.cells #[.int .i64 1, .int .i64 op, .int .i64 d, .int .i64 a, .int .i64 b, .int .i64 c, .int .u32 n, .string name, .slice A args.length cp] 33)))
  have HX0 := Aside0.mk (blk_new w (.cells #[.int .i64 1, .int .i64 op, .int .i64 d, .int .i64 a, .int .i64 b, .int .i64 c, .int .u32 n, .string name, .slice A args.length cp] 33))
  have HG0 := Aside0.mk (World.grownBy_alloc w (.cells #[.int .i64 1, .int .i64 op, .int .i64 d, .int .i64 a, .int .i64 b, .int .i64 c, .int .u32 n, .string name, .slice A args.length cp] 33) (some g))
  have r0 := HL.out d (by simp)
  go_enter Try.func46, Try.ntmps46
  go_wp2_with (first
    | (go_at_call 47; (with_reducible refine (HC0.out.touch d r0.1 (by first | exact r0.2 | (simp only [touchSp_length]; exact r0.2))).mono ?_); rintro e w1 ⟨rfl, hC, hG⟩; have HC1 := Aside0.mk hC; have HX1 := Aside0.mk ((hG.block w.heap.size (blk_lt HX0.out) (by simp; omega)).trans HX0.out); have HG1 := Aside0.mk (HG0.out.trans hG); clear hC hG; obtain ⟨g0, g2, g3, g4, g5, g8⟩ := ir_cells (x := ⟨1, op, d, a, b, c, n, name, args⟩) HX1.out; simp only at g0 g2 g3 g4 g5 g8))
  go_end0
  exact ⟨rfl, HC1.out, HG1.out⟩

set_option maxHeartbeats 4000000 in
set_option maxRecDepth 100000 in
theorem uses_2 (op d a b c n : Int) (name : ByteArray) (args : List Int) (A : Option Addr) (cp b5 b7 b10 g cap : Nat) (words i : Int) (sp : List Sp) (w : World) (hw : ClW w b5 b7 b10 g cap words i sp)
    (hr : ∀ r ∈ usesL ⟨2, op, d, a, b, c, n, name, args⟩, 0 ≤ r ∧ r < sp.length) :
    Calls Try.prog 46 #[.agg #[.int .i64 2, .int .i64 op, .int .i64 d, .int .i64 a, .int .i64 b, .int .i64 c, .int .u32 n, .string name, .slice A args.length cp], .func (.func 47) #[] #[.pointer (some ⟨b5, 0, none⟩), .pointer (some ⟨b7, 0, none⟩), .pointer (some ⟨b10, 0, none⟩)]] w fun e w' => e = .returned (.tuple #[]) ∧ ClW w' b5 b7 b10 g cap words i ((usesL ⟨2, op, d, a, b, c, n, name, args⟩).foldl (touchSp words i) sp) ∧ w.grownBy w' (some g) := by
  have hL : usesL ⟨2, op, d, a, b, c, n, name, args⟩ = [a, d] := by simp [usesL, readsL, writesB]
  rw [hL] at hr ⊢
  have HL := Aside0.mk hr
  clear hr hL
  have hlt := hw.hg.lt
  have HW := Aside0.mk hw
  clear hw
  have hu := Try.underlying33
  have HC0 := Aside0.mk (HW.out.below (below_alloc (Below.refl _ _) (.cells #[.int .i64 2, .int .i64 op, .int .i64 d, .int .i64 a, .int .i64 b, .int .i64 c, .int .u32 n, .string name, .slice A args.length cp] 33)))
  have HX0 := Aside0.mk (blk_new w (.cells #[.int .i64 2, .int .i64 op, .int .i64 d, .int .i64 a, .int .i64 b, .int .i64 c, .int .u32 n, .string name, .slice A args.length cp] 33))
  have HG0 := Aside0.mk (World.grownBy_alloc w (.cells #[.int .i64 2, .int .i64 op, .int .i64 d, .int .i64 a, .int .i64 b, .int .i64 c, .int .u32 n, .string name, .slice A args.length cp] 33) (some g))
  have r0 := HL.out a (by simp)
  have r1 := HL.out d (by simp)
  go_enter Try.func46, Try.ntmps46
  go_wp2_with (first
    | (go_at_call 47; (with_reducible refine (HC0.out.touch a r0.1 (by first | exact r0.2 | (simp only [touchSp_length]; exact r0.2))).mono ?_); rintro e w1 ⟨rfl, hC, hG⟩; have HC1 := Aside0.mk hC; have HX1 := Aside0.mk ((hG.block w.heap.size (blk_lt HX0.out) (by simp; omega)).trans HX0.out); have HG1 := Aside0.mk (HG0.out.trans hG); clear hC hG; obtain ⟨g0, g2, g3, g4, g5, g8⟩ := ir_cells (x := ⟨2, op, d, a, b, c, n, name, args⟩) HX1.out; simp only at g0 g2 g3 g4 g5 g8)
    | (go_at_call 47; (with_reducible refine (HC1.out.touch d r1.1 (by first | exact r1.2 | (simp only [touchSp_length]; exact r1.2))).mono ?_); rintro e w2 ⟨rfl, hC, hG⟩; have HC2 := Aside0.mk hC; have HX2 := Aside0.mk ((hG.block w.heap.size (blk_lt HX1.out) (by simp; omega)).trans HX1.out); have HG2 := Aside0.mk (HG1.out.trans hG); clear hC hG; obtain ⟨g0, g2, g3, g4, g5, g8⟩ := ir_cells (x := ⟨2, op, d, a, b, c, n, name, args⟩) HX2.out; simp only at g0 g2 g3 g4 g5 g8))
  go_end0
  exact ⟨rfl, HC2.out, HG2.out⟩

set_option maxHeartbeats 4000000 in
set_option maxRecDepth 100000 in
theorem uses_3 (op d a b c n : Int) (name : ByteArray) (args : List Int) (A : Option Addr) (cp b5 b7 b10 g cap : Nat) (words i : Int) (sp : List Sp) (w : World) (hw : ClW w b5 b7 b10 g cap words i sp)
    (hr : ∀ r ∈ usesL ⟨3, op, d, a, b, c, n, name, args⟩, 0 ≤ r ∧ r < sp.length) :
    Calls Try.prog 46 #[.agg #[.int .i64 3, .int .i64 op, .int .i64 d, .int .i64 a, .int .i64 b, .int .i64 c, .int .u32 n, .string name, .slice A args.length cp], .func (.func 47) #[] #[.pointer (some ⟨b5, 0, none⟩), .pointer (some ⟨b7, 0, none⟩), .pointer (some ⟨b10, 0, none⟩)]] w fun e w' => e = .returned (.tuple #[]) ∧ ClW w' b5 b7 b10 g cap words i ((usesL ⟨3, op, d, a, b, c, n, name, args⟩).foldl (touchSp words i) sp) ∧ w.grownBy w' (some g) := by
  have hL : usesL ⟨3, op, d, a, b, c, n, name, args⟩ = [a, b, d] := by simp [usesL, readsL, writesB]
  rw [hL] at hr ⊢
  have HL := Aside0.mk hr
  clear hr hL
  have hlt := hw.hg.lt
  have HW := Aside0.mk hw
  clear hw
  have hu := Try.underlying33
  have HC0 := Aside0.mk (HW.out.below (below_alloc (Below.refl _ _) (.cells #[.int .i64 3, .int .i64 op, .int .i64 d, .int .i64 a, .int .i64 b, .int .i64 c, .int .u32 n, .string name, .slice A args.length cp] 33)))
  have HX0 := Aside0.mk (blk_new w (.cells #[.int .i64 3, .int .i64 op, .int .i64 d, .int .i64 a, .int .i64 b, .int .i64 c, .int .u32 n, .string name, .slice A args.length cp] 33))
  have HG0 := Aside0.mk (World.grownBy_alloc w (.cells #[.int .i64 3, .int .i64 op, .int .i64 d, .int .i64 a, .int .i64 b, .int .i64 c, .int .u32 n, .string name, .slice A args.length cp] 33) (some g))
  have r0 := HL.out a (by simp)
  have r1 := HL.out b (by simp)
  have r2 := HL.out d (by simp)
  go_enter Try.func46, Try.ntmps46
  go_wp2_with (first
    | (go_at_call 47; (with_reducible refine (HC0.out.touch a r0.1 (by first | exact r0.2 | (simp only [touchSp_length]; exact r0.2))).mono ?_); rintro e w1 ⟨rfl, hC, hG⟩; have HC1 := Aside0.mk hC; have HX1 := Aside0.mk ((hG.block w.heap.size (blk_lt HX0.out) (by simp; omega)).trans HX0.out); have HG1 := Aside0.mk (HG0.out.trans hG); clear hC hG; obtain ⟨g0, g2, g3, g4, g5, g8⟩ := ir_cells (x := ⟨3, op, d, a, b, c, n, name, args⟩) HX1.out; simp only at g0 g2 g3 g4 g5 g8)
    | (go_at_call 47; (with_reducible refine (HC1.out.touch b r1.1 (by first | exact r1.2 | (simp only [touchSp_length]; exact r1.2))).mono ?_); rintro e w2 ⟨rfl, hC, hG⟩; have HC2 := Aside0.mk hC; have HX2 := Aside0.mk ((hG.block w.heap.size (blk_lt HX1.out) (by simp; omega)).trans HX1.out); have HG2 := Aside0.mk (HG1.out.trans hG); clear hC hG; obtain ⟨g0, g2, g3, g4, g5, g8⟩ := ir_cells (x := ⟨3, op, d, a, b, c, n, name, args⟩) HX2.out; simp only at g0 g2 g3 g4 g5 g8)
    | (go_at_call 47; (with_reducible refine (HC2.out.touch d r2.1 (by first | exact r2.2 | (simp only [touchSp_length]; exact r2.2))).mono ?_); rintro e w3 ⟨rfl, hC, hG⟩; have HC3 := Aside0.mk hC; have HX3 := Aside0.mk ((hG.block w.heap.size (blk_lt HX2.out) (by simp; omega)).trans HX2.out); have HG3 := Aside0.mk (HG2.out.trans hG); clear hC hG; obtain ⟨g0, g2, g3, g4, g5, g8⟩ := ir_cells (x := ⟨3, op, d, a, b, c, n, name, args⟩) HX3.out; simp only at g0 g2 g3 g4 g5 g8))
  go_end0
  exact ⟨rfl, HC3.out, HG3.out⟩

set_option maxHeartbeats 4000000 in
set_option maxRecDepth 100000 in
theorem uses_4 (op d a b c n : Int) (name : ByteArray) (args : List Int) (A : Option Addr) (cp b5 b7 b10 g cap : Nat) (words i : Int) (sp : List Sp) (w : World) (hw : ClW w b5 b7 b10 g cap words i sp)
    (hr : ∀ r ∈ usesL ⟨4, op, d, a, b, c, n, name, args⟩, 0 ≤ r ∧ r < sp.length) :
    Calls Try.prog 46 #[.agg #[.int .i64 4, .int .i64 op, .int .i64 d, .int .i64 a, .int .i64 b, .int .i64 c, .int .u32 n, .string name, .slice A args.length cp], .func (.func 47) #[] #[.pointer (some ⟨b5, 0, none⟩), .pointer (some ⟨b7, 0, none⟩), .pointer (some ⟨b10, 0, none⟩)]] w fun e w' => e = .returned (.tuple #[]) ∧ ClW w' b5 b7 b10 g cap words i ((usesL ⟨4, op, d, a, b, c, n, name, args⟩).foldl (touchSp words i) sp) ∧ w.grownBy w' (some g) := by
  have hL : usesL ⟨4, op, d, a, b, c, n, name, args⟩ = [a, b, c, d] := by simp [usesL, readsL, writesB]
  rw [hL] at hr ⊢
  have HL := Aside0.mk hr
  clear hr hL
  have hlt := hw.hg.lt
  have HW := Aside0.mk hw
  clear hw
  have hu := Try.underlying33
  have HC0 := Aside0.mk (HW.out.below (below_alloc (Below.refl _ _) (.cells #[.int .i64 4, .int .i64 op, .int .i64 d, .int .i64 a, .int .i64 b, .int .i64 c, .int .u32 n, .string name, .slice A args.length cp] 33)))
  have HX0 := Aside0.mk (blk_new w (.cells #[.int .i64 4, .int .i64 op, .int .i64 d, .int .i64 a, .int .i64 b, .int .i64 c, .int .u32 n, .string name, .slice A args.length cp] 33))
  have HG0 := Aside0.mk (World.grownBy_alloc w (.cells #[.int .i64 4, .int .i64 op, .int .i64 d, .int .i64 a, .int .i64 b, .int .i64 c, .int .u32 n, .string name, .slice A args.length cp] 33) (some g))
  have r0 := HL.out a (by simp)
  have r1 := HL.out b (by simp)
  have r2 := HL.out c (by simp)
  have r3 := HL.out d (by simp)
  go_enter Try.func46, Try.ntmps46
  go_wp2_with (first
    | (go_at_call 47; (with_reducible refine (HC0.out.touch a r0.1 (by first | exact r0.2 | (simp only [touchSp_length]; exact r0.2))).mono ?_); rintro e w1 ⟨rfl, hC, hG⟩; have HC1 := Aside0.mk hC; have HX1 := Aside0.mk ((hG.block w.heap.size (blk_lt HX0.out) (by simp; omega)).trans HX0.out); have HG1 := Aside0.mk (HG0.out.trans hG); clear hC hG; obtain ⟨g0, g2, g3, g4, g5, g8⟩ := ir_cells (x := ⟨4, op, d, a, b, c, n, name, args⟩) HX1.out; simp only at g0 g2 g3 g4 g5 g8)
    | (go_at_call 47; (with_reducible refine (HC1.out.touch b r1.1 (by first | exact r1.2 | (simp only [touchSp_length]; exact r1.2))).mono ?_); rintro e w2 ⟨rfl, hC, hG⟩; have HC2 := Aside0.mk hC; have HX2 := Aside0.mk ((hG.block w.heap.size (blk_lt HX1.out) (by simp; omega)).trans HX1.out); have HG2 := Aside0.mk (HG1.out.trans hG); clear hC hG; obtain ⟨g0, g2, g3, g4, g5, g8⟩ := ir_cells (x := ⟨4, op, d, a, b, c, n, name, args⟩) HX2.out; simp only at g0 g2 g3 g4 g5 g8)
    | (go_at_call 47; (with_reducible refine (HC2.out.touch c r2.1 (by first | exact r2.2 | (simp only [touchSp_length]; exact r2.2))).mono ?_); rintro e w3 ⟨rfl, hC, hG⟩; have HC3 := Aside0.mk hC; have HX3 := Aside0.mk ((hG.block w.heap.size (blk_lt HX2.out) (by simp; omega)).trans HX2.out); have HG3 := Aside0.mk (HG2.out.trans hG); clear hC hG; obtain ⟨g0, g2, g3, g4, g5, g8⟩ := ir_cells (x := ⟨4, op, d, a, b, c, n, name, args⟩) HX3.out; simp only at g0 g2 g3 g4 g5 g8)
    | (go_at_call 47; (with_reducible refine (HC3.out.touch d r3.1 (by first | exact r3.2 | (simp only [touchSp_length]; exact r3.2))).mono ?_); rintro e w4 ⟨rfl, hC, hG⟩; have HC4 := Aside0.mk hC; have HX4 := Aside0.mk ((hG.block w.heap.size (blk_lt HX3.out) (by simp; omega)).trans HX3.out); have HG4 := Aside0.mk (HG3.out.trans hG); clear hC hG; obtain ⟨g0, g2, g3, g4, g5, g8⟩ := ir_cells (x := ⟨4, op, d, a, b, c, n, name, args⟩) HX4.out; simp only at g0 g2 g3 g4 g5 g8))
  go_end0
  exact ⟨rfl, HC4.out, HG4.out⟩

set_option maxHeartbeats 4000000 in
set_option maxRecDepth 100000 in
theorem uses_5 (op d a b c n : Int) (name : ByteArray) (args : List Int) (A : Option Addr) (cp b5 b7 b10 g cap : Nat) (words i : Int) (sp : List Sp) (w : World) (hw : ClW w b5 b7 b10 g cap words i sp)
    (hr : ∀ r ∈ usesL ⟨5, op, d, a, b, c, n, name, args⟩, 0 ≤ r ∧ r < sp.length) :
    Calls Try.prog 46 #[.agg #[.int .i64 5, .int .i64 op, .int .i64 d, .int .i64 a, .int .i64 b, .int .i64 c, .int .u32 n, .string name, .slice A args.length cp], .func (.func 47) #[] #[.pointer (some ⟨b5, 0, none⟩), .pointer (some ⟨b7, 0, none⟩), .pointer (some ⟨b10, 0, none⟩)]] w fun e w' => e = .returned (.tuple #[]) ∧ ClW w' b5 b7 b10 g cap words i ((usesL ⟨5, op, d, a, b, c, n, name, args⟩).foldl (touchSp words i) sp) ∧ w.grownBy w' (some g) := by
  have hL : usesL ⟨5, op, d, a, b, c, n, name, args⟩ = [d] := by simp [usesL, readsL, writesB]
  rw [hL] at hr ⊢
  have HL := Aside0.mk hr
  clear hr hL
  have hlt := hw.hg.lt
  have HW := Aside0.mk hw
  clear hw
  have hu := Try.underlying33
  have HC0 := Aside0.mk (HW.out.below (below_alloc (Below.refl _ _) (.cells #[.int .i64 5, .int .i64 op, .int .i64 d, .int .i64 a, .int .i64 b, .int .i64 c, .int .u32 n, .string name, .slice A args.length cp] 33)))
  have HX0 := Aside0.mk (blk_new w (.cells #[.int .i64 5, .int .i64 op, .int .i64 d, .int .i64 a, .int .i64 b, .int .i64 c, .int .u32 n, .string name, .slice A args.length cp] 33))
  have HG0 := Aside0.mk (World.grownBy_alloc w (.cells #[.int .i64 5, .int .i64 op, .int .i64 d, .int .i64 a, .int .i64 b, .int .i64 c, .int .u32 n, .string name, .slice A args.length cp] 33) (some g))
  have r0 := HL.out d (by simp)
  go_enter Try.func46, Try.ntmps46
  go_wp2_with (first
    | (go_at_call 47; (with_reducible refine (HC0.out.touch d r0.1 (by first | exact r0.2 | (simp only [touchSp_length]; exact r0.2))).mono ?_); rintro e w1 ⟨rfl, hC, hG⟩; have HC1 := Aside0.mk hC; have HX1 := Aside0.mk ((hG.block w.heap.size (blk_lt HX0.out) (by simp; omega)).trans HX0.out); have HG1 := Aside0.mk (HG0.out.trans hG); clear hC hG; obtain ⟨g0, g2, g3, g4, g5, g8⟩ := ir_cells (x := ⟨5, op, d, a, b, c, n, name, args⟩) HX1.out; simp only at g0 g2 g3 g4 g5 g8))
  go_end0
  exact ⟨rfl, HC1.out, HG1.out⟩

set_option maxHeartbeats 4000000 in
set_option maxRecDepth 100000 in
theorem uses_6 (op d a b c n : Int) (name : ByteArray) (args : List Int) (A : Option Addr) (cp b5 b7 b10 g cap : Nat) (words i : Int) (sp : List Sp) (w : World) (hw : ClW w b5 b7 b10 g cap words i sp)
    (hr : ∀ r ∈ usesL ⟨6, op, d, a, b, c, n, name, args⟩, 0 ≤ r ∧ r < sp.length) :
    Calls Try.prog 46 #[.agg #[.int .i64 6, .int .i64 op, .int .i64 d, .int .i64 a, .int .i64 b, .int .i64 c, .int .u32 n, .string name, .slice A args.length cp], .func (.func 47) #[] #[.pointer (some ⟨b5, 0, none⟩), .pointer (some ⟨b7, 0, none⟩), .pointer (some ⟨b10, 0, none⟩)]] w fun e w' => e = .returned (.tuple #[]) ∧ ClW w' b5 b7 b10 g cap words i ((usesL ⟨6, op, d, a, b, c, n, name, args⟩).foldl (touchSp words i) sp) ∧ w.grownBy w' (some g) := by
  have hL : usesL ⟨6, op, d, a, b, c, n, name, args⟩ = [a] := by simp [usesL, readsL, writesB]
  rw [hL] at hr ⊢
  have HL := Aside0.mk hr
  clear hr hL
  have hlt := hw.hg.lt
  have HW := Aside0.mk hw
  clear hw
  have hu := Try.underlying33
  have HC0 := Aside0.mk (HW.out.below (below_alloc (Below.refl _ _) (.cells #[.int .i64 6, .int .i64 op, .int .i64 d, .int .i64 a, .int .i64 b, .int .i64 c, .int .u32 n, .string name, .slice A args.length cp] 33)))
  have HX0 := Aside0.mk (blk_new w (.cells #[.int .i64 6, .int .i64 op, .int .i64 d, .int .i64 a, .int .i64 b, .int .i64 c, .int .u32 n, .string name, .slice A args.length cp] 33))
  have HG0 := Aside0.mk (World.grownBy_alloc w (.cells #[.int .i64 6, .int .i64 op, .int .i64 d, .int .i64 a, .int .i64 b, .int .i64 c, .int .u32 n, .string name, .slice A args.length cp] 33) (some g))
  have r0 := HL.out a (by simp)
  go_enter Try.func46, Try.ntmps46
  go_wp2_with (first
    | (go_at_call 47; (with_reducible refine (HC0.out.touch a r0.1 (by first | exact r0.2 | (simp only [touchSp_length]; exact r0.2))).mono ?_); rintro e w1 ⟨rfl, hC, hG⟩; have HC1 := Aside0.mk hC; have HX1 := Aside0.mk ((hG.block w.heap.size (blk_lt HX0.out) (by simp; omega)).trans HX0.out); have HG1 := Aside0.mk (HG0.out.trans hG); clear hC hG; obtain ⟨g0, g2, g3, g4, g5, g8⟩ := ir_cells (x := ⟨6, op, d, a, b, c, n, name, args⟩) HX1.out; simp only at g0 g2 g3 g4 g5 g8))
  go_end0
  exact ⟨rfl, HC1.out, HG1.out⟩

set_option maxHeartbeats 4000000 in
set_option maxRecDepth 100000 in
theorem uses_8 (op d a b c n : Int) (name : ByteArray) (args : List Int) (A : Option Addr) (cp b5 b7 b10 g cap : Nat) (words i : Int) (sp : List Sp) (w : World) (hw : ClW w b5 b7 b10 g cap words i sp)
    (hr : ∀ r ∈ usesL ⟨8, op, d, a, b, c, n, name, args⟩, 0 ≤ r ∧ r < sp.length) :
    Calls Try.prog 46 #[.agg #[.int .i64 8, .int .i64 op, .int .i64 d, .int .i64 a, .int .i64 b, .int .i64 c, .int .u32 n, .string name, .slice A args.length cp], .func (.func 47) #[] #[.pointer (some ⟨b5, 0, none⟩), .pointer (some ⟨b7, 0, none⟩), .pointer (some ⟨b10, 0, none⟩)]] w fun e w' => e = .returned (.tuple #[]) ∧ ClW w' b5 b7 b10 g cap words i ((usesL ⟨8, op, d, a, b, c, n, name, args⟩).foldl (touchSp words i) sp) ∧ w.grownBy w' (some g) := by
  have hL : usesL ⟨8, op, d, a, b, c, n, name, args⟩ = [] := by simp [usesL, readsL, writesB]
  rw [hL] at hr ⊢
  have HL := Aside0.mk hr
  clear hr hL
  have hlt := hw.hg.lt
  have HW := Aside0.mk hw
  clear hw
  have hu := Try.underlying33
  have HC0 := Aside0.mk (HW.out.below (below_alloc (Below.refl _ _) (.cells #[.int .i64 8, .int .i64 op, .int .i64 d, .int .i64 a, .int .i64 b, .int .i64 c, .int .u32 n, .string name, .slice A args.length cp] 33)))
  have HX0 := Aside0.mk (blk_new w (.cells #[.int .i64 8, .int .i64 op, .int .i64 d, .int .i64 a, .int .i64 b, .int .i64 c, .int .u32 n, .string name, .slice A args.length cp] 33))
  have HG0 := Aside0.mk (World.grownBy_alloc w (.cells #[.int .i64 8, .int .i64 op, .int .i64 d, .int .i64 a, .int .i64 b, .int .i64 c, .int .u32 n, .string name, .slice A args.length cp] 33) (some g))
  go_enter Try.func46, Try.ntmps46
  go_wp2
  go_end0
  exact ⟨rfl, HC0.out, HG0.out⟩

set_option maxHeartbeats 4000000 in
set_option maxRecDepth 100000 in
theorem uses_9 (op d a b c n : Int) (name : ByteArray) (args : List Int) (A : Option Addr) (cp b5 b7 b10 g cap : Nat) (words i : Int) (sp : List Sp) (w : World) (hw : ClW w b5 b7 b10 g cap words i sp)
    (hr : ∀ r ∈ usesL ⟨9, op, d, a, b, c, n, name, args⟩, 0 ≤ r ∧ r < sp.length) :
    Calls Try.prog 46 #[.agg #[.int .i64 9, .int .i64 op, .int .i64 d, .int .i64 a, .int .i64 b, .int .i64 c, .int .u32 n, .string name, .slice A args.length cp], .func (.func 47) #[] #[.pointer (some ⟨b5, 0, none⟩), .pointer (some ⟨b7, 0, none⟩), .pointer (some ⟨b10, 0, none⟩)]] w fun e w' => e = .returned (.tuple #[]) ∧ ClW w' b5 b7 b10 g cap words i ((usesL ⟨9, op, d, a, b, c, n, name, args⟩).foldl (touchSp words i) sp) ∧ w.grownBy w' (some g) := by
  have hL : usesL ⟨9, op, d, a, b, c, n, name, args⟩ = [a] := by simp [usesL, readsL, writesB]
  rw [hL] at hr ⊢
  have HL := Aside0.mk hr
  clear hr hL
  have hlt := hw.hg.lt
  have HW := Aside0.mk hw
  clear hw
  have hu := Try.underlying33
  have HC0 := Aside0.mk (HW.out.below (below_alloc (Below.refl _ _) (.cells #[.int .i64 9, .int .i64 op, .int .i64 d, .int .i64 a, .int .i64 b, .int .i64 c, .int .u32 n, .string name, .slice A args.length cp] 33)))
  have HX0 := Aside0.mk (blk_new w (.cells #[.int .i64 9, .int .i64 op, .int .i64 d, .int .i64 a, .int .i64 b, .int .i64 c, .int .u32 n, .string name, .slice A args.length cp] 33))
  have HG0 := Aside0.mk (World.grownBy_alloc w (.cells #[.int .i64 9, .int .i64 op, .int .i64 d, .int .i64 a, .int .i64 b, .int .i64 c, .int .u32 n, .string name, .slice A args.length cp] 33) (some g))
  have r0 := HL.out a (by simp)
  go_enter Try.func46, Try.ntmps46
  go_wp2_with (first
    | (go_at_call 47; (with_reducible refine (HC0.out.touch a r0.1 (by first | exact r0.2 | (simp only [touchSp_length]; exact r0.2))).mono ?_); rintro e w1 ⟨rfl, hC, hG⟩; have HC1 := Aside0.mk hC; have HX1 := Aside0.mk ((hG.block w.heap.size (blk_lt HX0.out) (by simp; omega)).trans HX0.out); have HG1 := Aside0.mk (HG0.out.trans hG); clear hC hG; obtain ⟨g0, g2, g3, g4, g5, g8⟩ := ir_cells (x := ⟨9, op, d, a, b, c, n, name, args⟩) HX1.out; simp only at g0 g2 g3 g4 g5 g8))
  go_end0
  exact ⟨rfl, HC1.out, HG1.out⟩

set_option maxHeartbeats 4000000 in
set_option maxRecDepth 100000 in
theorem uses_10 (op d a b c n : Int) (name : ByteArray) (args : List Int) (A : Option Addr) (cp b5 b7 b10 g cap : Nat) (words i : Int) (sp : List Sp) (w : World) (hw : ClW w b5 b7 b10 g cap words i sp)
    (hr : ∀ r ∈ usesL ⟨10, op, d, a, b, c, n, name, args⟩, 0 ≤ r ∧ r < sp.length) :
    Calls Try.prog 46 #[.agg #[.int .i64 10, .int .i64 op, .int .i64 d, .int .i64 a, .int .i64 b, .int .i64 c, .int .u32 n, .string name, .slice A args.length cp], .func (.func 47) #[] #[.pointer (some ⟨b5, 0, none⟩), .pointer (some ⟨b7, 0, none⟩), .pointer (some ⟨b10, 0, none⟩)]] w fun e w' => e = .returned (.tuple #[]) ∧ ClW w' b5 b7 b10 g cap words i ((usesL ⟨10, op, d, a, b, c, n, name, args⟩).foldl (touchSp words i) sp) ∧ w.grownBy w' (some g) := by
  have hL : usesL ⟨10, op, d, a, b, c, n, name, args⟩ = [a] := by simp [usesL, readsL, writesB]
  rw [hL] at hr ⊢
  have HL := Aside0.mk hr
  clear hr hL
  have hlt := hw.hg.lt
  have HW := Aside0.mk hw
  clear hw
  have hu := Try.underlying33
  have HC0 := Aside0.mk (HW.out.below (below_alloc (Below.refl _ _) (.cells #[.int .i64 10, .int .i64 op, .int .i64 d, .int .i64 a, .int .i64 b, .int .i64 c, .int .u32 n, .string name, .slice A args.length cp] 33)))
  have HX0 := Aside0.mk (blk_new w (.cells #[.int .i64 10, .int .i64 op, .int .i64 d, .int .i64 a, .int .i64 b, .int .i64 c, .int .u32 n, .string name, .slice A args.length cp] 33))
  have HG0 := Aside0.mk (World.grownBy_alloc w (.cells #[.int .i64 10, .int .i64 op, .int .i64 d, .int .i64 a, .int .i64 b, .int .i64 c, .int .u32 n, .string name, .slice A args.length cp] 33) (some g))
  have r0 := HL.out a (by simp)
  go_enter Try.func46, Try.ntmps46
  go_wp2_with (first
    | (go_at_call 47; (with_reducible refine (HC0.out.touch a r0.1 (by first | exact r0.2 | (simp only [touchSp_length]; exact r0.2))).mono ?_); rintro e w1 ⟨rfl, hC, hG⟩; have HC1 := Aside0.mk hC; have HX1 := Aside0.mk ((hG.block w.heap.size (blk_lt HX0.out) (by simp; omega)).trans HX0.out); have HG1 := Aside0.mk (HG0.out.trans hG); clear hC hG; obtain ⟨g0, g2, g3, g4, g5, g8⟩ := ir_cells (x := ⟨10, op, d, a, b, c, n, name, args⟩) HX1.out; simp only at g0 g2 g3 g4 g5 g8))
  go_end0
  exact ⟨rfl, HC1.out, HG1.out⟩

set_option maxHeartbeats 4000000 in
set_option maxRecDepth 100000 in
theorem uses_7 (op d a b c n : Int) (name : ByteArray) (args : List Int) (A : Option Addr) (cp b5 b7 b10 g cap : Nat) (words i : Int) (sp : List Sp) (w : World) (hw : ClW w b5 b7 b10 g cap words i sp) (ha : Kd.C (Kd.int .i64) w A args.length args) (ha20 : args.length ≤ 20)
    (hr : ∀ r ∈ usesL ⟨7, op, d, a, b, c, n, name, args⟩, 0 ≤ r ∧ r < sp.length) (hbg : ∀ ad, A = some ad → 0 < args.length → ad.block ≠ g) :
    Calls Try.prog 46 #[.agg #[.int .i64 7, .int .i64 op, .int .i64 d, .int .i64 a, .int .i64 b, .int .i64 c, .int .u32 n, .string name, .slice A args.length cp], .func (.func 47) #[] #[.pointer (some ⟨b5, 0, none⟩), .pointer (some ⟨b7, 0, none⟩), .pointer (some ⟨b10, 0, none⟩)]] w fun e w' => e = .returned (.tuple #[]) ∧ ClW w' b5 b7 b10 g cap words i ((usesL ⟨7, op, d, a, b, c, n, name, args⟩).foldl (touchSp words i) sp) ∧ w.grownBy w' (some g) := by
  have hL : usesL ⟨7, op, d, a, b, c, n, name, args⟩ = args ++ [d] := by simp [usesL, readsL, writesB]
  rw [hL] at hr ⊢
  have HL := Aside0.mk hr
  clear hr hL
  have hlt := hw.hg.lt
  have HW := Aside0.mk hw
  have HA := Aside0.mk ha
  have HBG := Aside0.mk hbg
  clear hw ha hbg
  have hu := Try.underlying33
  have HC0 := Aside0.mk (HW.out.below (below_alloc (Below.refl _ _) (.cells #[.int .i64 7, .int .i64 op, .int .i64 d, .int .i64 a, .int .i64 b, .int .i64 c, .int .u32 n, .string name, .slice A args.length cp] 33)))
  have HX0 := Aside0.mk (blk_new w (.cells #[.int .i64 7, .int .i64 op, .int .i64 d, .int .i64 a, .int .i64 b, .int .i64 c, .int .u32 n, .string name, .slice A args.length cp] 33))
  have HG0 := Aside0.mk (World.grownBy_alloc w (.cells #[.int .i64 7, .int .i64 op, .int .i64 d, .int .i64 a, .int .i64 b, .int .i64 c, .int .u32 n, .string name, .slice A args.length cp] 33) (some g))
  have rd := HL.out d (by simp)
  go_enter Try.func46, Try.ntmps46
  go_wp2
  go_loopw [46] (fun v46 wr => ∃ k : Nat, k ≤ args.length ∧ v46 = .int .i64 k ∧ Aside0 (ClW wr b5 b7 b10 g cap words i ((args.take k).foldl (touchSp words i) sp)) ∧ Aside0 (w.grownBy wr (some g)) ∧ Aside0 (wr.heap[w.heap.size]? = some (.cells #[.int .i64 7, .int .i64 op, .int .i64 d, .int .i64 a, .int .i64 b, .int .i64 c, .int .u32 n, .string name, .slice A args.length cp] 33))) (fun v46 _ => args.length - (intOf v46).toNat)
  case atStart => exact ⟨0, Nat.zero_le _, rfl, HC0, HG0, HX0⟩
  case round =>
    obtain ⟨k, hk, rfl, HC, HG, HX⟩ := hrel
    by_cases hlt2 : k < args.length
    · obtain ⟨ad, r, rfl, hrk, hcell⟩ := nt_scalar HA.out (Below.refl _ _) k hlt2
      have hbad := HBG.out ad rfl (by omega)
      have hcell2 : wr.cell? (ad.add k) = some (.int .i64 r) := (World.cell?_of_block (HG.out.block _ (by have := World.block_lt_of_cell? w _ hcell; exact this) (by rw [addr_block]; simpa using hbad))).trans hcell
      have hr01 := HL.out r (by simp [at_mem hrk])
      have HF := Aside0.mk (show (args.take (k + 1)).foldl (touchSp words i) sp = touchSp words i ((args.take k).foldl (touchSp words i) sp) r by rw [take_snoc_at hrk, List.foldl_append]; rfl)
      clear hrk hcell
      go_wp2_with (go_at_call 47; (with_reducible refine (HC.out.touch r hr01.1 (by rw [foldl_length]; exact hr01.2)).mono ?_); rintro e w1 ⟨rfl, hC, hG⟩; have HC1 := Aside0.mk hC; have HX1 := Aside0.mk ((hG.block w.heap.size (blk_lt HX.out) (by simp; omega)).trans HX.out); have HG1 := Aside0.mk (HG.out.trans hG); clear hC hG)
      go_roundw
      case rel => exact ⟨k + 1, by omega, by go_num, ⟨by rw [HF.out]; exact HC1.out⟩, HG1, HX1⟩
      case measure => simp [intOf]; omega
    · obtain rfl : k = args.length := by omega
      have HF := Aside0.mk (show (args ++ [d]).foldl (touchSp words i) sp = touchSp words i ((args.take args.length).foldl (touchSp words i) sp) d by rw [List.foldl_append, List.take_length]; rfl)
      obtain ⟨g0, g2, g3, g4, g5, g8⟩ := ir_cells (x := ⟨7, op, d, a, b, c, n, name, args⟩) HX.out
      simp only at g0 g2 g3 g4 g5 g8
      go_wp2_with (go_at_call 47; (with_reducible refine (HC.out.touch d rd.1 (by rw [foldl_length]; exact rd.2)).mono ?_); rintro e w1 ⟨rfl, hC, hG⟩; have HC1 := Aside0.mk hC; have HG1 := Aside0.mk (HG.out.trans hG); clear hC hG)
      go_end0
      exact ⟨rfl, by rw [HF.out]; exact HC1.out, HG1.out⟩

/-- All kinds in one. -/
theorem uses_any (x : Ir) (A : Option Addr) (cp b5 b7 b10 g cap : Nat) (words i : Int) (sp : List Sp) (w : World) (hk : 1 ≤ x.kind ∧ x.kind ≤ 10) (hw : ClW w b5 b7 b10 g cap words i sp) (ha : Kd.C (Kd.int .i64) w A x.args.length x.args) (ha20 : x.args.length ≤ 20)
    (hr : ∀ r ∈ usesL x, 0 ≤ r ∧ r < sp.length) (hbg : ∀ ad, A = some ad → 0 < x.args.length → ad.block ≠ g) :
    Calls Try.prog 46 #[irV x A cp, .func (.func 47) #[] #[.pointer (some ⟨b5, 0, none⟩), .pointer (some ⟨b7, 0, none⟩), .pointer (some ⟨b10, 0, none⟩)]] w fun e w' => e = .returned (.tuple #[]) ∧ ClW w' b5 b7 b10 g cap words i ((usesL x).foldl (touchSp words i) sp) ∧ w.grownBy w' (some g) := by
  obtain ⟨kind, op, d, a, b, c, n, name, args⟩ := x
  simp only at hk ha ha20 hbg
  have : kind = 1 ∨ kind = 2 ∨ kind = 3 ∨ kind = 4 ∨ kind = 5 ∨ kind = 6 ∨ kind = 7 ∨ kind = 8 ∨ kind = 9 ∨ kind = 10 := by omega
  rcases this with rfl | rfl | rfl | rfl | rfl | rfl | rfl | rfl | rfl | rfl
  · exact uses_1 op d a b c n name args A cp b5 b7 b10 g cap words i sp w hw hr
  · exact uses_2 op d a b c n name args A cp b5 b7 b10 g cap words i sp w hw hr
  · exact uses_3 op d a b c n name args A cp b5 b7 b10 g cap words i sp w hw hr
  · exact uses_4 op d a b c n name args A cp b5 b7 b10 g cap words i sp w hw hr
  · exact uses_5 op d a b c n name args A cp b5 b7 b10 g cap words i sp w hw hr
  · exact uses_6 op d a b c n name args A cp b5 b7 b10 g cap words i sp w hw hr
  · exact uses_7 op d a b c n name args A cp b5 b7 b10 g cap words i sp w hw ha ha20 hr hbg
  · exact uses_8 op d a b c n name args A cp b5 b7 b10 g cap words i sp w hw hr
  · exact uses_9 op d a b c n name args A cp b5 b7 b10 g cap words i sp w hw hr
  · exact uses_10 op d a b c n name args A cp b5 b7 b10 g cap words i sp w hw hr
end Go.Proofs.Ytlkkdpmloeipjaa
