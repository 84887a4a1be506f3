/- carlingref13.Check: whatever the code. -/
import Derived.Test.YtddnbpgibfmolaaM5
namespace Go.Proofs.Ytddnbpgibfmolaa
open Go.RowKit Go.Proofs.YtddnbpgibfmolaaW.PrintWords
set_option linter.unusedVariables false

theorem mcheck_any (l : List Mi) (cells : Int) (A : Option Addr) (c : Nat) (w : World) (hl : Kd.C kMi w A l.length l) (hn : ∀ x ∈ l, 0 ≤ x.n ∧ x.n < 4294967296) :
    Calls Try.prog 41 #[.slice A l.length c, .int .i64 cells] w fun e w' => e = .returned (.tuple #[.int .i64 (mcheckE l cells).1, .int .i64 (mcheckE l cells).2]) ∧ Below w.heap.size w w' := by
  unfold mcheckE
  by_cases h : l.length = 0 ∨ 20000 < l.length ∨ cells < 0 ∨ 4096 < cells
  · rw [if_pos h]
    exact mcheck_form l cells A c w hl.2.1 h
  · rw [if_neg h]
    exact mcheck_ok l cells A c w hl hn (by omega) (by omega) (by omega) (by omega)
end Go.Proofs.Ytddnbpgibfmolaa
