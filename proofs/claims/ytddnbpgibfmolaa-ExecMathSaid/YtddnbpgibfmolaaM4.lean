/- carlingref13.Check: may code be, of so many cells? -/
import Derived.Test.YtddnbpgibfmolaaM2
namespace Go.Proofs.Ytddnbpgibfmolaa
open Go.RowKit Go.Proofs.YtddnbpgibfmolaaW.PrintWords
set_option linter.unusedVariables false

/-- What is wrong with the i-th instruction of so many, in so many cells. -/
def mwE (len : Nat) (cells : Int) (i : Nat) (x : Mi) : Int :=
  if miB x = false then 14 else if (x.kind = 4 ∨ x.kind = 5) ∧ cells ≤ x.n then 16 else if 6 ≤ x.kind ∧ x.kind ≤ 8 ∧ (len : Int) ≤ x.n then 17 else if i + 1 = len ∧ x.kind ≠ 6 ∧ x.kind ≠ 9 then 18 else 0
/-- The first that is wrong from k on, of m more. -/
def mscan (l : List Mi) (cells : Int) : Nat → Nat → Int × Int
  | 0, _ => (0, -1)
  | m + 1, k => match l[k]? with
    | some x => if mwE l.length cells k x = 0 then mscan l cells m (k + 1) else (mwE l.length cells k x, k)
    | none => (0, -1)
def mcheckE (l : List Mi) (cells : Int) : Int × Int := if l.length = 0 ∨ 20000 < l.length ∨ cells < 0 ∨ 4096 < cells then (6, -1) else mscan l cells l.length 0
theorem mscan_ok {l : List Mi} {cells : Int} {k : Nat} {x : Mi} (h : l[k]? = some x) (he : mwE l.length cells k x = 0) : mscan l cells (l.length - k) k = mscan l cells (l.length - (k + 1)) (k + 1) := by
  have hk := (List.getElem?_eq_some_iff.1 h).1
  obtain ⟨n, hn⟩ : ∃ n, l.length - k = n + 1 := ⟨l.length - k - 1, by omega⟩
  rw [hn, show l.length - (k + 1) = n by omega]
  conv => lhs; unfold mscan
  rw [h]; simp only; rw [if_pos he]
theorem mscan_bad {l : List Mi} {cells : Int} {k : Nat} {x : Mi} (h : l[k]? = some x) (he : ¬ mwE l.length cells k x = 0) : mscan l cells (l.length - k) k = (mwE l.length cells k x, (k : Int)) := by
  have hk := (List.getElem?_eq_some_iff.1 h).1
  obtain ⟨n, hn⟩ : ∃ n, l.length - k = n + 1 := ⟨l.length - k - 1, by omega⟩
  rw [hn]
  unfold mscan
  rw [h]; simp only; rw [if_neg he]
theorem mscan_end (l : List Mi) (cells : Int) : mscan l cells (l.length - l.length) l.length = (0, -1) := by rw [Nat.sub_self]; rfl

set_option maxHeartbeats 4000000 in
theorem mcheck_form (l : List Mi) (cells : Int) (A : Option Addr) (c : Nat) (w : World) (hl : l.length ≤ 9223372036854775807) (h : l.length = 0 ∨ 20000 < l.length ∨ cells < 0 ∨ 4096 < cells) :
    Calls Try.prog 41 #[.slice A l.length c, .int .i64 cells] w fun e w' => e = .returned (.tuple #[.int .i64 6, .int .i64 (-1)]) ∧ Below w.heap.size w w' := by
  rcases (show (l.length : Int) = 0 ∨ (¬ (l.length : Int) = 0 ∧ (20000 : Int) < l.length) ∨ (¬ (l.length : Int) = 0 ∧ ¬ (20000 : Int) < l.length ∧ cells < 0) ∨ (¬ (l.length : Int) = 0 ∧ ¬ (20000 : Int) < l.length ∧ ¬ cells < 0 ∧ 4096 < cells) from by omega) with h1 | ⟨h1, h2⟩ | ⟨h1, h2, h3⟩ | ⟨h1, h2, h3, h4⟩
  · have e1 : ((l.length : Int) == 0) = true := beq_iff_eq.2 h1
    clear h h1
    generalize l.length = m at *
    go_enter Try.func41, Try.ntmps41
    go_wp2
    go_ret2
    exact ⟨rfl, Below.refl _ _⟩
  all_goals
    have e1 : ((l.length : Int) == 0) = false := beq_eq_false_iff_ne.2 h1
    clear h h1
    generalize l.length = m at *
    go_enter Try.func41, Try.ntmps41
    go_wp2
    go_ret2
    exact ⟨rfl, Below.refl _ _⟩
end Go.Proofs.Ytddnbpgibfmolaa
