/- carlingref13.Right, mach.Right: may an instruction of the machine be? '==' of two instructions. -/
import Derived.Test.YtddnbpgibfmolaaB0
import Derived.Test.YtddnbpgibfmolaaWEqStruct
namespace Go.Proofs.Ytddnbpgibfmolaa
open Go.RowKit Go.Proofs.YtddnbpgibfmolaaW.PrintWords
set_option linter.unusedVariables false

abbrev miV (x : Mi) : Value := .agg #[.int .i64 x.kind, .int .i64 x.op, .int .i64 x.d, .int .i64 x.a, .int .i64 x.b, .int .u32 x.n]
/-- May an instruction be? -/
def miB (x : Mi) : Bool := decide (0 ≤ x.d ∧ x.d ≤ 7 ∧ 0 ≤ x.a ∧ x.a ≤ 7 ∧ 0 ≤ x.b ∧ x.b ≤ 7) &&
  (if x.kind = 1 ∨ x.kind = 4 then decide (x.op = 0 ∧ x.a = 0 ∧ x.b = 0) else if x.kind = 2 then decide (x.op = 0 ∧ x.b = 0 ∧ x.n = 0) else if x.kind = 3 then decide (1 ≤ x.op ∧ x.op ≤ 10 ∧ x.n = 0)
   else if x.kind = 5 ∨ x.kind = 7 then decide (x.op = 0 ∧ x.d = 0 ∧ x.b = 0) else if x.kind = 6 ∨ x.kind = 8 then decide (x.op = 0 ∧ x.d = 0 ∧ x.a = 0 ∧ x.b = 0) else if x.kind = 9 then decide (x.op = 0 ∧ x.d = 0 ∧ x.a = 0 ∧ x.b = 0 ∧ x.n = 0) else false)

theorem infoU32 : ∃ i, Try.prog.info? 25 = some i := by
  cases h : Try.prog.info? 25 with
  | some i => exact ⟨i, rfl⟩
  | none =>
    have h2 : (Try.prog.info? 25).isSome = true := by kernel_rfl
    rw [h] at h2
    simp at h2
theorem partU32 (xs : Array Value) (i : Nat) (v : Value) (w : World) (h : xs[i]? = some v) : (part 25 xs i).run Try.prog w = .ok v w := by
  obtain ⟨inf, hi⟩ := infoU32
  have h1 : (Try.prog.info? 25).map (fun i => i.size) = some 1 := by kernel_rfl
  rw [hi] at h1
  simp only [Option.map_some, Option.some.injEq] at h1
  simp [part, h, sizeOf, typeInfo, hi, isAgg, Try.isAgg25, h1]
theorem eqMi (k o d a b n k' o' d' a' b' n' : Int) (w : World) : (Op.equalIn 10000 27 (.agg #[.int .i64 k, .int .i64 o, .int .i64 d, .int .i64 a, .int .i64 b, .int .u32 n]) (.agg #[.int .i64 k', .int .i64 o', .int .i64 d', .int .i64 a', .int .i64 b', .int .u32 n'])).run Try.prog w = .ok (k == k' && (o == o' && (d == d' && (a == a' && (b == b' && n == n'))))) w := by
  have hI : ∀ x y : Int, (Op.equalIn 9999 3 (.int .i64 x) (.int .i64 y)).run Try.prog w = .ok (x == y) w := fun x y => run_equalIn_int (P := Try.prog) w 9998 3 .i64 .i64 x y Try.underlying3
  have hU : ∀ x y : Int, (Op.equalIn 9999 25 (.int .u32 x) (.int .u32 y)).run Try.prog w = .ok (x == y) w := fun x y => run_equalIn_int (P := Try.prog) w 9998 25 .u32 .u32 x y Try.underlying25
  refine eqA_of Try.underlying27 (by kernel_rfl) ?_
  refine eqf_cons rfl (partInt _ 0 _ w rfl) (partInt _ 0 _ w rfl) (hI k k') ?_
  refine eqf_cons rfl (partInt _ 1 _ w rfl) (partInt _ 1 _ w rfl) (hI o o') ?_
  refine eqf_cons rfl (partInt _ 2 _ w rfl) (partInt _ 2 _ w rfl) (hI d d') ?_
  refine eqf_cons rfl (partInt _ 3 _ w rfl) (partInt _ 3 _ w rfl) (hI a a') ?_
  refine eqf_cons rfl (partInt _ 4 _ w rfl) (partInt _ 4 _ w rfl) (hI b b') ?_
  exact eqf_last rfl (partU32 _ 5 _ w rfl) (partU32 _ 5 _ w rfl) (hU n n')
end Go.Proofs.Ytddnbpgibfmolaa
