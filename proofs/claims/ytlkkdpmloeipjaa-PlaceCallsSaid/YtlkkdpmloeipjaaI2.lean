/- The functions of PlaceCalls: what is right of them. No program in sight. -/
import Derived.Test.YtlkkdpmloeipjaaG2
namespace Go.Proofs.Ytlkkdpmloeipjaa
open Go.RowKit Go.Proofs.YtlkkdpmloeipjaaW.PrintWords
set_option linter.unusedVariables false

def qK : Ir := ⟨1, 0, 0, 0, 0, 0, 1, ⟨#[]⟩, []⟩
def qY : Ir := ⟨2, 0, 0, 0, 0, 0, 0, ⟨#[]⟩, []⟩
def qL : Ir := ⟨7, 0, 1, 0, 0, 0, 0, ⟨#[97, 46, 103]⟩, []⟩
def qT : Ir := ⟨10, 0, 0, 1, 0, 0, 0, ⟨#[]⟩, []⟩
def qList (a b : Nat) : List Ir := [qK] ++ List.replicate a qY ++ [qL] ++ List.replicate b qY ++ [qT]
def cCall (a b : Nat) : Code := ⟨⟨#[97, 46, 102]⟩, [], 2, 0, qList a b⟩
def factB (a b : Nat) : Bool := decide ((rightE (cCall a b)).1 = 0) && (callsB (cCall a b) (sp (spansE (cCall a b)) 0) == decide (0 < b)) && (callsB (cCall a b) (sp (spansE (cCall a b)) 1) == false)
theorem facts_all : ((List.range 21).all fun a => (List.range 21).all fun b => factB a b) = true := by kernel_rfl
theorem call_facts {a b : Nat} (ha : a ≤ 20) (hb : b ≤ 20) : (rightE (cCall a b)).1 = 0 ∧ callsB (cCall a b) (sp (spansE (cCall a b)) 0) = decide (0 < b) ∧ callsB (cCall a b) (sp (spansE (cCall a b)) 1) = false := by
  have h := List.all_eq_true.1 (List.all_eq_true.1 facts_all a (List.mem_range.2 (by omega))) b (List.mem_range.2 (by omega))
  unfold factB at h
  simp only [Bool.and_eq_true, decide_eq_true_eq, beq_iff_eq] at h
  exact ⟨h.1.1, h.1.2, h.2⟩
end Go.Proofs.Ytlkkdpmloeipjaa
