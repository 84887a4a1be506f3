/- place.Check: the walk. -/
import Derived.Test.YtlkkdpmloeipjaaF1
import Derived.Test.YtlkkdpmloeipjaaE2
import Derived.Deep.RegionLaw
import Derived.Test.YtlkkdpmloeipjaaQ0
import Derived.Test.YtlkkdpmloeipjaaB2
namespace Go.Proofs.Ytlkkdpmloeipjaa
open Go.RowKit Go.Proofs.YtlkkdpmloeipjaaW.PrintWords Go.Maps
set_option linter.unusedVariables false

/-- May a register of this span lie at this place, beside those of g? -/
def okAt (c : Code) (slots : Int) (g : Int → List Sp) (p : Int) (s : Sp) : Bool := !(decide (p < 3) || decide (slots ≤ p - 8) || (callsB c s && decide (p < 8))) && (g p).all (fun t => !meetB t s)
/-- The spans of the first r registers, by their place. -/
def gAt (E : List Sp) (l : List Int) : Nat → Int → List Sp
  | 0 => fun _ => []
  | r + 1 => updS (gAt E l r) (l.getD r 0) (gAt E l r (l.getD r 0) ++ [E.getD r zSp])
def chkTo (c : Code) (E : List Sp) (l : List Int) (slots : Int) : Nat → Bool
  | 0 => true
  | r + 1 => chkTo c E l slots r && okAt c slots (gAt E l r) (l.getD r 0) (E.getD r zSp)
def checkE (c : Code) (l : List Int) (slots : Int) : Bool := if (rightE c).1 = 0 ∧ (l.length : Int) = c.regs ∧ 0 ≤ slots then chkTo c (spansE c) l slots l.length else false
theorem chk_false {c : Code} {E : List Sp} {l : List Int} {slots : Int} {r : Nat} (h : okAt c slots (gAt E l r) (l.getD r 0) (E.getD r zSp) = false) : ∀ n, r < n → chkTo c E l slots n = false := by
  intro n
  induction n with
  | zero => intro h; omega
  | succ n ih =>
    intro hn
    unfold chkTo
    by_cases e : r = n
    · subst e
      rw [h, Bool.and_false]
    · rw [ih (by omega), Bool.false_and]
theorem gAt_len (E : List Sp) (l : List Int) : ∀ (r : Nat) (k : Int), (gAt E l r k).length ≤ r
  | 0, k => by simp [gAt]
  | r + 1, k => by
    unfold gAt updS
    split
    · have := gAt_len E l r (l.getD r 0)
      rw [List.length_append, List.length_singleton]
      omega
    · have := gAt_len E l r k
      omega

set_option maxHeartbeats 4000000 in
set_option maxRecDepth 100000 in
theorem check_bad (c : Code) (l : List Int) (slots : Int) (A1 : Option Addr) (c1 : Nat) (A4 : Option Addr) (c4 : Nat) (A : Option Addr) (cA : Nat) (w : World) (hok : CodeOk c) (hat : CodeAt w c A1 c1 A4 c4) (hb : ¬ ((rightE c).1 = 0 ∧ (l.length : Int) = c.regs ∧ 0 ≤ slots)) :
    Calls Try.prog 32 #[codeV c A1 c1 A4 c4, .slice A l.length cA, .int .i64 slots] w fun e w' => e = .returned (.bool false) ∧ Below w.heap.size w w' := by
  have HR := Aside0.mk (fun W (hb : Below w.heap.size w W) => right_any c A1 c1 A4 c4 W hok (hat.below hb))
  by_cases h1 : (rightE c).1 = 0
  · have hbb : ((rightE c).1 != 0) = false := bne_eq_false_iff_eq.2 h1
    by_cases h2 : (l.length : Int) = c.regs
    · have h3 : slots < 0 := Int.not_le.1 (fun h => hb ⟨h1, h2, h⟩)
      have hlr : ((l.length : Int) != c.regs) = false := bne_eq_false_iff_eq.2 h2
      clear hok hat hb h1 h2
      have hu2 := Try.underlying25
      obtain ⟨name, params, regs, cells, L⟩ := c
      simp only [codeV] at *
      generalize rightE ⟨name, params, regs, cells, L⟩ = e at *
      obtain ⟨e1, e2⟩ := e
      simp only at hbb ⊢
      go_enter Try.func32, Try.ntmps32
      go_wp2_with (go_at_call 22; (with_reducible refine (HR.out _ (below_alloc (Below.refl _ _) _)).mono ?_); rintro e w1 ⟨rfl, hB1⟩; have HB1 := Aside0.mk (show Below (w.heap.size + 1) _ w1 from by simpa using hB1); clear hB1; obtain ⟨g0, g1, g2, g3, g4⟩ := code_box1 (c := ⟨name, params, regs, cells, L⟩) HB1.out; (try simp only at g0 g1 g2 g3 g4))
      go_ret
      exact ⟨rfl, below_of_box HB1.out⟩
    · have hlr : ((l.length : Int) != c.regs) = true := bne_iff_ne.2 h2
      clear hok hat hb h1 h2
      have hu2 := Try.underlying25
      obtain ⟨name, params, regs, cells, L⟩ := c
      simp only [codeV] at *
      generalize rightE ⟨name, params, regs, cells, L⟩ = e at *
      obtain ⟨e1, e2⟩ := e
      simp only at hbb ⊢
      go_enter Try.func32, Try.ntmps32
      go_wp2_with (go_at_call 22; (with_reducible refine (HR.out _ (below_alloc (Below.refl _ _) _)).mono ?_); rintro e w1 ⟨rfl, hB1⟩; have HB1 := Aside0.mk (show Below (w.heap.size + 1) _ w1 from by simpa using hB1); clear hB1; obtain ⟨g0, g1, g2, g3, g4⟩ := code_box1 (c := ⟨name, params, regs, cells, L⟩) HB1.out; (try simp only at g0 g1 g2 g3 g4))
      go_ret
      exact ⟨rfl, below_of_box HB1.out⟩
  · have hbb : ((rightE c).1 != 0) = true := bne_iff_ne.2 h1
    clear hok hat hb h1
    have hu2 := Try.underlying25
    obtain ⟨name, params, regs, cells, L⟩ := c
    simp only [codeV] at *
    generalize rightE ⟨name, params, regs, cells, L⟩ = e at *
    obtain ⟨e1, e2⟩ := e
    simp only at hbb ⊢
    go_enter Try.func32, Try.ntmps32
    go_wp2_with (go_at_call 22; (with_reducible refine (HR.out _ (below_alloc (Below.refl _ _) _)).mono ?_); rintro e w1 ⟨rfl, hB1⟩; have HB1 := Aside0.mk (show Below (w.heap.size + 1) _ w1 from by simpa using hB1); clear hB1)
    go_ret
    exact ⟨rfl, below_of_box HB1.out⟩
end Go.Proofs.Ytlkkdpmloeipjaa
