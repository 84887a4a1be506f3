/- mach.has: what each kind of instruction has. -/
import Derived.Test.YtddnbpgibfmolaaM1
import Derived.Laws.Tables
import Derived.Laws.Rows
import Derived.Deep.WholeRow
namespace Go.Proofs.Ytddnbpgibfmolaa
open Go.RowKit Go.Proofs.YtddnbpgibfmolaaW.PrintWords
set_option linter.unusedVariables false

def hasB (k : Int) : List Bool :=
  if k = 1 ∨ k = 4 then [false, true, false, false, true] else if k = 2 then [false, true, true, false, false] else if k = 3 then [true, true, true, true, false]
  else if k = 5 ∨ k = 7 then [false, false, true, false, true] else if k = 6 ∨ k = 8 then [false, false, false, false, true] else [false, false, false, false, false]
def tabA : Array Value := #[.bool false, .bool false, .bool false, .bool false, .bool false, .bool false, .bool true, .bool false, .bool false, .bool true, .bool false, .bool true, .bool true, .bool false, .bool false, .bool true, .bool true, .bool true, .bool true, .bool false,
  .bool false, .bool true, .bool false, .bool false, .bool true, .bool false, .bool false, .bool true, .bool false, .bool true, .bool false, .bool false, .bool false, .bool false, .bool true, .bool false, .bool false, .bool true, .bool false, .bool true,
  .bool false, .bool false, .bool false, .bool false, .bool true, .bool false, .bool false, .bool false, .bool false, .bool false]
theorem tab_cell {w W : World} {A : Go.Obj} (h : W = (w.alloc A).alloc (.cells tabA 126)) (i : Nat) : W.cell? ⟨w.heap.size + 1, i, none⟩ = tabA[i]? := by
  subst h
  exact blk_cell (blk_new1 w A _) i
theorem setRow_new1 (w : World) (A : Go.Obj) (c c' : Array Value) (t : TypeId) : ((w.alloc A).alloc (.cells c t)).setRow (w.heap.size + 1) c' = (w.alloc A).alloc (.cells c' t) := by
  have e := World.setRow_alloc_new (w.alloc A) c c' t
  rwa [World.size_alloc] at e
set_option maxHeartbeats 4000000 in
theorem has_1 (w : World) : Calls Try.prog 76 #[.int .i64 1] w fun e w' => e = .returned (.agg ((hasB 1).map Value.bool).toArray) ∧ Below w.heap.size w w' := by
  have t0 : tabA[5]? = some (.bool false) := rfl
  have t1 : tabA[6]? = some (.bool true) := rfl
  have t2 : tabA[7]? = some (.bool false) := rfl
  have t3 : tabA[8]? = some (.bool false) := rfl
  have t4 : tabA[9]? = some (.bool true) := rfl
  go_enter Try.func76, Try.ntmps76
  go_wp2_with (refine wpList_store_row rfl 126 (.tmp 3) (.tmp 14) rfl (w.heap.size + 1) tabA rfl rfl 126 _ (blk_new1 w _ _) (by kernel_rfl) (by kernel_rfl) (by kernel_rfl) ?_; rw [setRow_new1])
  refine bodyPost_ret (v := .agg ((hasB 1).map Value.bool).toArray) ?_ rfl ⟨rfl, below_alloc (below_alloc (Below.refl _ _) _) _⟩
  exact results_cell_row rfl _ _ w.heap.size 120 _ (0, 0) _ rfl (blk_alloc (blk_new w _) _) Try.underlying120 rfl (by kernel_rfl)
set_option maxHeartbeats 4000000 in
theorem has_2 (w : World) : Calls Try.prog 76 #[.int .i64 2] w fun e w' => e = .returned (.agg ((hasB 2).map Value.bool).toArray) ∧ Below w.heap.size w w' := by
  have t0 : tabA[10]? = some (.bool false) := rfl
  have t1 : tabA[11]? = some (.bool true) := rfl
  have t2 : tabA[12]? = some (.bool true) := rfl
  have t3 : tabA[13]? = some (.bool false) := rfl
  have t4 : tabA[14]? = some (.bool false) := rfl
  go_enter Try.func76, Try.ntmps76
  go_wp2_with (refine wpList_store_row rfl 126 (.tmp 3) (.tmp 14) rfl (w.heap.size + 1) tabA rfl rfl 126 _ (blk_new1 w _ _) (by kernel_rfl) (by kernel_rfl) (by kernel_rfl) ?_; rw [setRow_new1])
  refine bodyPost_ret (v := .agg ((hasB 2).map Value.bool).toArray) ?_ rfl ⟨rfl, below_alloc (below_alloc (Below.refl _ _) _) _⟩
  exact results_cell_row rfl _ _ w.heap.size 120 _ (0, 0) _ rfl (blk_alloc (blk_new w _) _) Try.underlying120 rfl (by kernel_rfl)
set_option maxHeartbeats 4000000 in
theorem has_3 (w : World) : Calls Try.prog 76 #[.int .i64 3] w fun e w' => e = .returned (.agg ((hasB 3).map Value.bool).toArray) ∧ Below w.heap.size w w' := by
  have t0 : tabA[15]? = some (.bool true) := rfl
  have t1 : tabA[16]? = some (.bool true) := rfl
  have t2 : tabA[17]? = some (.bool true) := rfl
  have t3 : tabA[18]? = some (.bool true) := rfl
  have t4 : tabA[19]? = some (.bool false) := rfl
  go_enter Try.func76, Try.ntmps76
  go_wp2_with (refine wpList_store_row rfl 126 (.tmp 3) (.tmp 14) rfl (w.heap.size + 1) tabA rfl rfl 126 _ (blk_new1 w _ _) (by kernel_rfl) (by kernel_rfl) (by kernel_rfl) ?_; rw [setRow_new1])
  refine bodyPost_ret (v := .agg ((hasB 3).map Value.bool).toArray) ?_ rfl ⟨rfl, below_alloc (below_alloc (Below.refl _ _) _) _⟩
  exact results_cell_row rfl _ _ w.heap.size 120 _ (0, 0) _ rfl (blk_alloc (blk_new w _) _) Try.underlying120 rfl (by kernel_rfl)
set_option maxHeartbeats 4000000 in
theorem has_4 (w : World) : Calls Try.prog 76 #[.int .i64 4] w fun e w' => e = .returned (.agg ((hasB 4).map Value.bool).toArray) ∧ Below w.heap.size w w' := by
  have t0 : tabA[20]? = some (.bool false) := rfl
  have t1 : tabA[21]? = some (.bool true) := rfl
  have t2 : tabA[22]? = some (.bool false) := rfl
  have t3 : tabA[23]? = some (.bool false) := rfl
  have t4 : tabA[24]? = some (.bool true) := rfl
  go_enter Try.func76, Try.ntmps76
  go_wp2_with (refine wpList_store_row rfl 126 (.tmp 3) (.tmp 14) rfl (w.heap.size + 1) tabA rfl rfl 126 _ (blk_new1 w _ _) (by kernel_rfl) (by kernel_rfl) (by kernel_rfl) ?_; rw [setRow_new1])
  refine bodyPost_ret (v := .agg ((hasB 4).map Value.bool).toArray) ?_ rfl ⟨rfl, below_alloc (below_alloc (Below.refl _ _) _) _⟩
  exact results_cell_row rfl _ _ w.heap.size 120 _ (0, 0) _ rfl (blk_alloc (blk_new w _) _) Try.underlying120 rfl (by kernel_rfl)
set_option maxHeartbeats 4000000 in
theorem has_5 (w : World) : Calls Try.prog 76 #[.int .i64 5] w fun e w' => e = .returned (.agg ((hasB 5).map Value.bool).toArray) ∧ Below w.heap.size w w' := by
  have t0 : tabA[25]? = some (.bool false) := rfl
  have t1 : tabA[26]? = some (.bool false) := rfl
  have t2 : tabA[27]? = some (.bool true) := rfl
  have t3 : tabA[28]? = some (.bool false) := rfl
  have t4 : tabA[29]? = some (.bool true) := rfl
  go_enter Try.func76, Try.ntmps76
  go_wp2_with (refine wpList_store_row rfl 126 (.tmp 3) (.tmp 14) rfl (w.heap.size + 1) tabA rfl rfl 126 _ (blk_new1 w _ _) (by kernel_rfl) (by kernel_rfl) (by kernel_rfl) ?_; rw [setRow_new1])
  refine bodyPost_ret (v := .agg ((hasB 5).map Value.bool).toArray) ?_ rfl ⟨rfl, below_alloc (below_alloc (Below.refl _ _) _) _⟩
  exact results_cell_row rfl _ _ w.heap.size 120 _ (0, 0) _ rfl (blk_alloc (blk_new w _) _) Try.underlying120 rfl (by kernel_rfl)
set_option maxHeartbeats 4000000 in
theorem has_6 (w : World) : Calls Try.prog 76 #[.int .i64 6] w fun e w' => e = .returned (.agg ((hasB 6).map Value.bool).toArray) ∧ Below w.heap.size w w' := by
  have t0 : tabA[30]? = some (.bool false) := rfl
  have t1 : tabA[31]? = some (.bool false) := rfl
  have t2 : tabA[32]? = some (.bool false) := rfl
  have t3 : tabA[33]? = some (.bool false) := rfl
  have t4 : tabA[34]? = some (.bool true) := rfl
  go_enter Try.func76, Try.ntmps76
  go_wp2_with (refine wpList_store_row rfl 126 (.tmp 3) (.tmp 14) rfl (w.heap.size + 1) tabA rfl rfl 126 _ (blk_new1 w _ _) (by kernel_rfl) (by kernel_rfl) (by kernel_rfl) ?_; rw [setRow_new1])
  refine bodyPost_ret (v := .agg ((hasB 6).map Value.bool).toArray) ?_ rfl ⟨rfl, below_alloc (below_alloc (Below.refl _ _) _) _⟩
  exact results_cell_row rfl _ _ w.heap.size 120 _ (0, 0) _ rfl (blk_alloc (blk_new w _) _) Try.underlying120 rfl (by kernel_rfl)
set_option maxHeartbeats 4000000 in
theorem has_7 (w : World) : Calls Try.prog 76 #[.int .i64 7] w fun e w' => e = .returned (.agg ((hasB 7).map Value.bool).toArray) ∧ Below w.heap.size w w' := by
  have t0 : tabA[35]? = some (.bool false) := rfl
  have t1 : tabA[36]? = some (.bool false) := rfl
  have t2 : tabA[37]? = some (.bool true) := rfl
  have t3 : tabA[38]? = some (.bool false) := rfl
  have t4 : tabA[39]? = some (.bool true) := rfl
  go_enter Try.func76, Try.ntmps76
  go_wp2_with (refine wpList_store_row rfl 126 (.tmp 3) (.tmp 14) rfl (w.heap.size + 1) tabA rfl rfl 126 _ (blk_new1 w _ _) (by kernel_rfl) (by kernel_rfl) (by kernel_rfl) ?_; rw [setRow_new1])
  refine bodyPost_ret (v := .agg ((hasB 7).map Value.bool).toArray) ?_ rfl ⟨rfl, below_alloc (below_alloc (Below.refl _ _) _) _⟩
  exact results_cell_row rfl _ _ w.heap.size 120 _ (0, 0) _ rfl (blk_alloc (blk_new w _) _) Try.underlying120 rfl (by kernel_rfl)
set_option maxHeartbeats 4000000 in
theorem has_8 (w : World) : Calls Try.prog 76 #[.int .i64 8] w fun e w' => e = .returned (.agg ((hasB 8).map Value.bool).toArray) ∧ Below w.heap.size w w' := by
  have t0 : tabA[40]? = some (.bool false) := rfl
  have t1 : tabA[41]? = some (.bool false) := rfl
  have t2 : tabA[42]? = some (.bool false) := rfl
  have t3 : tabA[43]? = some (.bool false) := rfl
  have t4 : tabA[44]? = some (.bool true) := rfl
  go_enter Try.func76, Try.ntmps76
  go_wp2_with (refine wpList_store_row rfl 126 (.tmp 3) (.tmp 14) rfl (w.heap.size + 1) tabA rfl rfl 126 _ (blk_new1 w _ _) (by kernel_rfl) (by kernel_rfl) (by kernel_rfl) ?_; rw [setRow_new1])
  refine bodyPost_ret (v := .agg ((hasB 8).map Value.bool).toArray) ?_ rfl ⟨rfl, below_alloc (below_alloc (Below.refl _ _) _) _⟩
  exact results_cell_row rfl _ _ w.heap.size 120 _ (0, 0) _ rfl (blk_alloc (blk_new w _) _) Try.underlying120 rfl (by kernel_rfl)
set_option maxHeartbeats 4000000 in
theorem has_9 (w : World) : Calls Try.prog 76 #[.int .i64 9] w fun e w' => e = .returned (.agg ((hasB 9).map Value.bool).toArray) ∧ Below w.heap.size w w' := by
  have t0 : tabA[45]? = some (.bool false) := rfl
  have t1 : tabA[46]? = some (.bool false) := rfl
  have t2 : tabA[47]? = some (.bool false) := rfl
  have t3 : tabA[48]? = some (.bool false) := rfl
  have t4 : tabA[49]? = some (.bool false) := rfl
  go_enter Try.func76, Try.ntmps76
  go_wp2_with (refine wpList_store_row rfl 126 (.tmp 3) (.tmp 14) rfl (w.heap.size + 1) tabA rfl rfl 126 _ (blk_new1 w _ _) (by kernel_rfl) (by kernel_rfl) (by kernel_rfl) ?_; rw [setRow_new1])
  refine bodyPost_ret (v := .agg ((hasB 9).map Value.bool).toArray) ?_ rfl ⟨rfl, below_alloc (below_alloc (Below.refl _ _) _) _⟩
  exact results_cell_row rfl _ _ w.heap.size 120 _ (0, 0) _ rfl (blk_alloc (blk_new w _) _) Try.underlying120 rfl (by kernel_rfl)
end Go.Proofs.Ytddnbpgibfmolaa
