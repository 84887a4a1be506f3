/- The functions of PlaceMany: what is right of them. No program in sight. -/
import Derived.Test.YtlkkdpmloeipjaaG2
import Derived.Test.YtlkkdpmloeipjaaS1
namespace Go.Proofs.Ytlkkdpmloeipjaa
open Go.RowKit Go.Proofs.YtlkkdpmloeipjaaW.PrintWords
set_option linter.unusedVariables false

def mK (i : Nat) : Ir := ⟨1, 0, i, 0, 0, 0, i, ⟨#[]⟩, []⟩
def mB (i : Nat) : Ir := ⟨3, 1, 0, 0, i, 0, 0, ⟨#[]⟩, []⟩
def mR : Ir := ⟨10, 0, 0, 0, 0, 0, 0, ⟨#[]⟩, []⟩
def mL1 (n : Nat) : List Ir := (List.range n).map mK
def mL2 (n : Nat) : List Ir := (List.range n).map mB
def cMany (n : Nat) : Code := ⟨⟨#[97, 46, 102]⟩, [], n, 0, mL1 n ++ mL2 n ++ [mR]⟩
def mSp (n r : Nat) : Sp := ⟨(r : Int), if r = 0 then 2 * (n : Int) else (n : Int) + r⟩
def factM (n : Nat) : Bool := decide ((rightE (cMany n)).1 = 0) && decide (spansE (cMany n) = (List.range n).map (mSp n))
theorem many_all : ((List.range 60).all fun i => factM (i + 1)) = true := by kernel_rfl
theorem many_facts {n : Nat} (h1 : 1 ≤ n) (h60 : n ≤ 60) : (rightE (cMany n)).1 = 0 ∧ spansE (cMany n) = (List.range n).map (mSp n) := by
  have h := List.all_eq_true.1 many_all (n - 1) (List.mem_range.2 (by omega))
  rw [show n - 1 + 1 = n by omega] at h
  unfold factM at h
  simp only [Bool.and_eq_true, decide_eq_true_eq] at h
  exact h
end Go.Proofs.Ytlkkdpmloeipjaa
