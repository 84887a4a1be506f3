/- carlinglaw14.awake. -/
import Derived.Test.YtddnbpgibfmolaaX12
namespace Go.Proofs.Ytddnbpgibfmolaa
open Go.RowKit Go.Proofs.YtddnbpgibfmolaaW.PrintWords
set_option linter.unusedVariables false

/-- The image of 'awake'. -/
def mAw : Image := ⟨[⟨⟨#[97, 46, 102]⟩, [⟨false, 0⟩], 0, 0, 1⟩], [⟨4, 0, 0, 0, 0, 0⟩, ⟨9, 0, 0, 0, 0, 0⟩], 1⟩
theorem mAw_ok : ImgOk mAw := ⟨by decide, by decide, by decide, by decide, by decide⟩
theorem blk_newn {W : World} {n : Nat} (h : n = W.heap.size) (o : Go.Obj) : (W.alloc o).heap[n]? = some o := by subst h; exact blk_new W o
theorem mAw_img : imgB mAw = true := by kernel_rfl
theorem mAw_tells : tellE mAw ⟨#[97, 46, 102]⟩ [7] = ⟨7, [], [⟨0, 0⟩, ⟨1, -1⟩], 0⟩ := by kernel_rfl
theorem mAw_at {W : World} {g0 g1 g2 : Nat} (h0 : W.heap[g0]? = some (.cells #[.int .i64 4, .int .i64 0, .int .i64 0, .int .i64 0, .int .i64 0, .int .u32 0, .int .i64 9, .int .i64 0, .int .i64 0, .int .i64 0, .int .i64 0, .int .u32 0] 27 (0, 0)))
    (h1 : W.heap[g1]? = some (.cells #[.bool false, .int .i64 0] 33 (0, 0))) (h2 : W.heap[g2]? = some (.cells #[.string ⟨#[97, 46, 102]⟩, .slice (some ⟨g1, 0, none⟩) 1 1, .int .i64 0, .int .i64 0, .int .i64 1] 36 (0, 0))) :
    ImgAt W mAw (some ⟨g2, 0, none⟩) 1 (some ⟨g0, 0, none⟩) 2 := by
  have ht : Kd.C kTy W (some ⟨g1, 0, none⟩) [(⟨false, 0⟩ : Ty)].length [⟨false, 0⟩] := by
    refine C_blk (xs := [(⟨false, 0⟩ : Ty)]) h1 ⟨rfl, fun j p hj => ?_⟩ (by simp)
    match j, hj with
    | 0, hj =>
      obtain rfl : (⟨false, 0⟩ : Ty) = p := Option.some.inj hj
      exact kTy_mk W _
    | j + 1, hj => simp at hj
  refine ⟨?_, Nat.le_refl _, ?_, Nat.le_refl _⟩
  · refine C_blk (xs := mAw.entries) h2 ⟨rfl, fun j p hj => ?_⟩ (by decide)
    match j, hj with
    | 0, hj =>
      obtain rfl : (⟨⟨#[97, 46, 102]⟩, [⟨false, 0⟩], 0, 0, 1⟩ : Entry) = p := Option.some.inj hj
      exact kEntry_mk W _ (Nat.le_refl _) ht
    | j + 1, hj => simp [mAw] at hj
  · refine C_blk (xs := mAw.code) h0 ⟨rfl, fun j p hj => ?_⟩ (by decide)
    match j, hj with
    | 0, hj =>
      obtain rfl : (⟨4, 0, 0, 0, 0, 0⟩ : Mi) = p := Option.some.inj hj
      exact kMi_mk W _
    | 1, hj =>
      obtain rfl : (⟨9, 0, 0, 0, 0, 0⟩ : Mi) = p := Option.some.inj hj
      exact kMi_mk W _
    | j + 2, hj => simp [mAw] at hj

theorem leaks2 {w w1 : World} {A : Option Addr} {a b c d : Int} (h : Kd.C kLeak w A 2 [⟨a, b⟩, ⟨c, d⟩]) (hb : Below w.heap.size w w1) : ∃ ad, A = some ad ∧ w1.cell? ad = some (.int .i64 a) ∧ w1.cell? ⟨ad.block, ad.off + 1, none⟩ = some (.int .i64 b) ∧ w1.cell? ⟨ad.block, ad.off + 2, none⟩ = some (.int .i64 c) ∧ w1.cell? ⟨ad.block, ad.off + 2 + 1, none⟩ = some (.int .i64 d) := by
  obtain ⟨x0, ad, rfl, e0, c00, c01⟩ := nt_Leak (xs := [⟨a, b⟩, ⟨c, d⟩]) h hb 0 (by simp)
  obtain ⟨x1, ad', e', e1, c10, c11⟩ := nt_Leak (xs := [⟨a, b⟩, ⟨c, d⟩]) h hb 1 (by simp)
  injection e' with e'
  subst e'
  obtain rfl : (⟨a, b⟩ : Leak) = x0 := Option.some.inj e0
  obtain rfl : (⟨c, d⟩ : Leak) = x1 := Option.some.inj e1
  simp only [Nat.zero_mul, Nat.one_mul, Addr.add_zero'] at c00 c01 c10 c11
  exact ⟨ad, rfl, c00, c01, c10, c11⟩

set_option maxHeartbeats 8000000 in
set_option maxRecDepth 100000 in
theorem awake14_any (w : World) : Calls Try.prog 14 #[] w fun e w' => e = .returned (.bool true) ∧ Below w.heap.size w w' := by
  have hu2 := Try.underlying31
  have hu3 := Try.underlying27
  have hu4 := Try.underlying33
  have hu5 := Try.underlying36
  have hu6 := Try.underlying48
  have hu7 := Try.underlying38
  have HC := Aside0.mk (fun (W : World) (g0 g1 g2 g3 : Nat) (h0 : W.heap[g0]? = some (.cells #[.int .i64 4, .int .i64 0, .int .i64 0, .int .i64 0, .int .i64 0, .int .u32 0, .int .i64 9, .int .i64 0, .int .i64 0, .int .i64 0, .int .i64 0, .int .u32 0] 27 (0, 0)))
    (h1 : W.heap[g1]? = some (.cells #[.bool false, .int .i64 0] 33 (0, 0))) (h2 : W.heap[g2]? = some (.cells #[.string ⟨#[97, 46, 102]⟩, .slice (some ⟨g1, 0, none⟩) 1 1, .int .i64 0, .int .i64 0, .int .i64 1] 36 (0, 0))) (h3 : W.heap[g3]? = some (.cells #[.int .u32 7] 25 (0, 0))) =>
    xrun_any mAw (some ⟨g2, 0, none⟩) 1 (some ⟨g0, 0, none⟩) 2 ⟨#[97, 46, 102]⟩ [7] (some ⟨g3, 0, none⟩) 1 W mAw_ok (mAw_at h0 h1 h2) (by decide) (C_ints h3 (fun j x hj => by cases j with | zero => simpa using hj | succ j => simp at hj) (by simp)) (Nat.le_refl _) (by intro r hr; simp at hr; subst hr; exact ⟨by decide, by decide⟩) (by decide))
  have HR := Aside0.mk (fun (W : World) (g0 g1 g2 : Nat) (h0 : W.heap[g0]? = some (.cells #[.int .i64 4, .int .i64 0, .int .i64 0, .int .i64 0, .int .i64 0, .int .u32 0, .int .i64 9, .int .i64 0, .int .i64 0, .int .i64 0, .int .i64 0, .int .u32 0] 27 (0, 0)))
    (h1 : W.heap[g1]? = some (.cells #[.bool false, .int .i64 0] 33 (0, 0))) (h2 : W.heap[g2]? = some (.cells #[.string ⟨#[97, 46, 102]⟩, .slice (some ⟨g1, 0, none⟩) 1 1, .int .i64 0, .int .i64 0, .int .i64 1] 36 (0, 0))) =>
    xright_any mAw (some ⟨g2, 0, none⟩) 1 (some ⟨g0, 0, none⟩) 2 W mAw_ok (mAw_at h0 h1 h2))
  rw [mAw_img] at HR
  rw [mAw_tells] at HC
  simp only [imgV, mAw, List.length_nil, List.length_cons, Nat.zero_add, Nat.reduceAdd] at HC HR
  have q1 := fun W => eqLk 0 0 0 0 W
  have q2 := fun W => eqLk 1 (-1) 1 (-1) W
  rw [show ((0 : Int) == 0 && (0 : Int) == 0) = true from rfl] at q1
  rw [show ((1 : Int) == 1 && (-1 : Int) == -1) = true from rfl] at q2
  go_enter Try.func14, Try.ntmps14
  go_upto_region 2 with (fail)
  have b0 := Aside0.mk (blk_alloc (blk_alloc (blk_alloc (blk_new w (.cells #[.int .i64 4, .int .i64 0, .int .i64 0, .int .i64 0, .int .i64 0, .int .u32 0, .int .i64 9, .int .i64 0, .int .i64 0, .int .i64 0, .int .i64 0, .int .u32 0] 27 (0, 0))) (.cells #[.bool false, .int .i64 0] 33 (0, 0))) (.cells #[.string ⟨#[97, 46, 102]⟩, .slice (some ⟨w.heap.size + 1, 0, none⟩) 1 1, .int .i64 0, .int .i64 0, .int .i64 1] 36 (0, 0))) (.cells #[.slice (some ⟨w.heap.size + 1 + 1, 0, none⟩) 1 1, .slice (some ⟨w.heap.size, 0, none⟩) 2 2, .int .i64 1] 31 (0, 0)))
  have b1 := Aside0.mk (blk_alloc (blk_alloc (blk_newn (W := w.alloc (.cells #[.int .i64 4, .int .i64 0, .int .i64 0, .int .i64 0, .int .i64 0, .int .u32 0, .int .i64 9, .int .i64 0, .int .i64 0, .int .i64 0, .int .i64 0, .int .u32 0] 27 (0, 0))) (n := w.heap.size + 1) (by simp) (.cells #[.bool false, .int .i64 0] 33 (0, 0))) (.cells #[.string ⟨#[97, 46, 102]⟩, .slice (some ⟨w.heap.size + 1, 0, none⟩) 1 1, .int .i64 0, .int .i64 0, .int .i64 1] 36 (0, 0))) (.cells #[.slice (some ⟨w.heap.size + 1 + 1, 0, none⟩) 1 1, .slice (some ⟨w.heap.size, 0, none⟩) 2 2, .int .i64 1] 31 (0, 0)))
  have b2 := Aside0.mk (blk_alloc (blk_newn (W := (w.alloc (.cells #[.int .i64 4, .int .i64 0, .int .i64 0, .int .i64 0, .int .i64 0, .int .u32 0, .int .i64 9, .int .i64 0, .int .i64 0, .int .i64 0, .int .i64 0, .int .u32 0] 27 (0, 0))).alloc (.cells #[.bool false, .int .i64 0] 33 (0, 0))) (n := w.heap.size + 1 + 1) (by simp) (.cells #[.string ⟨#[97, 46, 102]⟩, .slice (some ⟨w.heap.size + 1, 0, none⟩) 1 1, .int .i64 0, .int .i64 0, .int .i64 1] 36 (0, 0))) (.cells #[.slice (some ⟨w.heap.size + 1 + 1, 0, none⟩) 1 1, .slice (some ⟨w.heap.size, 0, none⟩) 2 2, .int .i64 1] 31 (0, 0)))
  have b3 := Aside0.mk (blk_newn (W := ((w.alloc (.cells #[.int .i64 4, .int .i64 0, .int .i64 0, .int .i64 0, .int .i64 0, .int .u32 0, .int .i64 9, .int .i64 0, .int .i64 0, .int .i64 0, .int .i64 0, .int .u32 0] 27 (0, 0))).alloc (.cells #[.bool false, .int .i64 0] 33 (0, 0))).alloc (.cells #[.string ⟨#[97, 46, 102]⟩, .slice (some ⟨w.heap.size + 1, 0, none⟩) 1 1, .int .i64 0, .int .i64 0, .int .i64 1] 36 (0, 0))) (n := w.heap.size + 1 + 1 + 1) (by simp) (.cells #[.slice (some ⟨w.heap.size + 1 + 1, 0, none⟩) 1 1, .slice (some ⟨w.heap.size, 0, none⟩) 2 2, .int .i64 1] 31 (0, 0)))
  have HB := Aside0.mk (below_alloc (below_alloc (below_alloc (below_alloc (Below.refl w.heap.size w) (.cells #[.int .i64 4, .int .i64 0, .int .i64 0, .int .i64 0, .int .i64 0, .int .u32 0, .int .i64 9, .int .i64 0, .int .i64 0, .int .i64 0, .int .i64 0, .int .u32 0] 27 (0, 0))) (.cells #[.bool false, .int .i64 0] 33 (0, 0))) (.cells #[.string ⟨#[97, 46, 102]⟩, .slice (some ⟨w.heap.size + 1, 0, none⟩) 1 1, .int .i64 0, .int .i64 0, .int .i64 1] 36 (0, 0))) (.cells #[.slice (some ⟨w.heap.size + 1 + 1, 0, none⟩) 1 1, .slice (some ⟨w.heap.size, 0, none⟩) 2 2, .int .i64 1] 31 (0, 0)))
  generalize (((w.alloc (.cells #[.int .i64 4, .int .i64 0, .int .i64 0, .int .i64 0, .int .i64 0, .int .u32 0, .int .i64 9, .int .i64 0, .int .i64 0, .int .i64 0, .int .i64 0, .int .u32 0] 27 (0, 0))).alloc (.cells #[.bool false, .int .i64 0] 33 (0, 0))).alloc (.cells #[.string ⟨#[97, 46, 102]⟩, .slice (some ⟨w.heap.size + 1, 0, none⟩) 1 1, .int .i64 0, .int .i64 0, .int .i64 1] 36 (0, 0))).alloc (.cells #[.slice (some ⟨w.heap.size + 1 + 1, 0, none⟩) 1 1, .slice (some ⟨w.heap.size, 0, none⟩) 2 2, .int .i64 1] 31 (0, 0)) = W at *
  have hl3 := blk_lt b3.out
  have i0 : W.cell? ⟨w.heap.size + 1 + 1 + 1, 0, none⟩ = some (.slice (some ⟨w.heap.size + 1 + 1, 0, none⟩) 1 1) := blk_cell b3.out 0
  have i1 : W.cell? ⟨w.heap.size + 1 + 1 + 1, 1, none⟩ = some (.slice (some ⟨w.heap.size, 0, none⟩) 2 2) := blk_cell b3.out 1
  have i2 : W.cell? ⟨w.heap.size + 1 + 1 + 1, 2, none⟩ = some (.int .i64 1) := blk_cell b3.out 2
  go_upto_region 3 with (go_at_call 15; (with_reducible refine (HC.out _ w.heap.size (w.heap.size + 1) (w.heap.size + 1 + 1) W.heap.size (blk_alloc b0.out _) (blk_alloc b1.out _) (blk_alloc b2.out _) (blk_new W _)).mono ?_); rintro e w1 ⟨A, c, A2, c2, rfl, hC1, hC2, hB1⟩; have HB1 := Aside0.mk (below_step (below_alloc (Below.refl W.heap.size W) _) hB1); have HC2 := Aside0.mk hC2; clear hB1 hC1 hC2 i0 i1 i2)
  have hBo := below_alloc (Below.refl w1.heap.size w1) (.cells #[.int .u32 7, .slice A 0 c] 38 (0, 0))
  have c0 := Aside0.mk (blk_below (blk_below b0.out HB1.out) hBo)
  have c1 := Aside0.mk (blk_below (blk_below b1.out HB1.out) hBo)
  have c2' := Aside0.mk (blk_below (blk_below b2.out HB1.out) hBo)
  have c3 := Aside0.mk (blk_below (blk_below b3.out HB1.out) hBo)
  have c4 := Aside0.mk (blk_new w1 (.cells #[.int .u32 7, .slice A 0 c] 38 (0, 0)))
  have HC3 := Aside0.mk (Kd.C_below HC2.out hBo)
  have HB2 := Aside0.mk (below_step HB.out (below_alloc HB1.out (.cells #[.int .u32 7, .slice A 0 c] 38 (0, 0))))
  clear HB1 HC2 hBo
  generalize w1.alloc (.cells #[.int .u32 7, .slice A 0 c] 38 (0, 0)) = w2 at *
  have i0 : w2.cell? ⟨w.heap.size + 1 + 1 + 1, 0, none⟩ = some (.slice (some ⟨w.heap.size + 1 + 1, 0, none⟩) 1 1) := blk_cell c3.out 0
  have i1 : w2.cell? ⟨w.heap.size + 1 + 1 + 1, 1, none⟩ = some (.slice (some ⟨w.heap.size, 0, none⟩) 2 2) := blk_cell c3.out 1
  have i2 : w2.cell? ⟨w.heap.size + 1 + 1 + 1, 2, none⟩ = some (.int .i64 1) := blk_cell c3.out 2
  have HL := Aside0.mk (fun (W3 : World) (h : Below w2.heap.size w2 W3) => leaks2 HC3.out h)
  obtain ⟨ad, rfl⟩ : ∃ ad, A2 = some ad := by obtain ⟨ad, e, _⟩ := leaks2 HC3.out (Below.refl _ _); exact ⟨ad, e⟩
  go_wp2_with (go_at_call 17; (with_reducible refine (HR.out _ w.heap.size (w.heap.size + 1) (w.heap.size + 1 + 1) c0.out c1.out c2'.out).mono ?_); rintro e w3 ⟨rfl, hB3⟩; have HB3 := Aside0.mk hB3; have o0 : w3.cell? ⟨w1.heap.size, 0, none⟩ = some (.int .u32 7) := blk_cell (blk_below c4.out hB3) 0; obtain ⟨ad', e', l0, l1, l2, l3⟩ := HL.out w3 hB3; injection e' with e'; subst e'; clear hB3 i0 i1 i2)
  go_ret
  exact ⟨rfl, below_step HB2.out HB3.out⟩
end Go.Proofs.Ytddnbpgibfmolaa
