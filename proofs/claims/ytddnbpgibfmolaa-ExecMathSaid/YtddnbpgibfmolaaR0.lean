/- What an argument reads as: from the row's reading of data to the kinds. -/
import Derived.Test.YtddnbpgibfmolaaK
import Derived.ProofKit
import Derived.OpenShut
import Derived.ShutString
import Derived.ChangeOld
import Derived.SizedLaws
import Derived.Deep.Slices
namespace Go.Proofs.Ytddnbpgibfmolaa
open Go.RowKit Go.Proofs.YtddnbpgibfmolaaW.PrintWords
open Go.Deep
set_option linter.unusedVariables false

theorem list_choose {α : Type} {Q : Nat → α → Prop} : ∀ n, (∀ i, i < n → ∃ x, Q i x) → ∃ xs : List α, xs.length = n ∧ ∀ i x, xs[i]? = some x → Q i x := by
  intro n
  induction n with
  | zero => intro _; exact ⟨[], rfl, fun i x h => by simp at h⟩
  | succ n ih =>
    intro h
    obtain ⟨xs, hl, hx⟩ := ih (fun i hi => h i (by omega))
    obtain ⟨y, hy⟩ := h n (by omega)
    refine ⟨xs ++ [y], by simp [hl], fun i x hi => ?_⟩
    by_cases e : i < n
    · rw [List.getElem?_append_left (by omega)] at hi
      exact hx i x hi
    · have hlt := (List.getElem?_eq_some_iff.1 hi).1
      rw [List.length_append, hl, List.length_singleton] at hlt
      obtain rfl : i = n := by omega
      rw [List.getElem?_append_right (by omega), hl, Nat.sub_self] at hi
      obtain rfl : y = x := by simpa using hi
      exact hy
theorem addr_add_add (a : Addr) (m j : Nat) : (a.add m).add j = a.add (m + j) := by
  unfold Addr.add
  by_cases hm : m = 0
  · subst hm
    simp
  · by_cases hj : j = 0
    · subst hj
      simp
    · simp [hm, hj, Nat.add_assoc]

section
variable {H : Type} {enc : TypeId × Value → H} {w : World} {base : Nat} {spare : Nat → Bool} {held : Bool}
/-- Whatever reads at this type is of this kind. -/
def Opens {α : Type} (enc : TypeId × Value → H) (w : World) (base : Nat) (spare : Nat → Bool) (held : Bool) (t : TypeId) (d : Kd α) (Wf : α → Prop) : Prop :=
  ∀ (fuel : Nat) (cs : List Value) (y : DataW H × List MemPlace), DataW.trod enc Try.prog w base spare held fuel t cs = some y → ∃ x, d.K w x cs ∧ Wf x
theorem opens_int {t : TypeId} {k : IntKind} (ht : Try.prog.underlying t = some (.int k)) : Opens enc w base spare held t (Kd.int k) (fun n => (Lit.int k n).wf = true) := by
  intro fuel cs y h
  obtain ⟨n, rfl, _, hn⟩ := DataW.trod_int ht h
  exact ⟨n, rfl, hn⟩
theorem opens_bool {t : TypeId} (ht : Try.prog.underlying t = some .bool) : Opens enc w base spare held t Kd.bool (fun _ => True) := by
  intro fuel cs y h
  obtain ⟨n, rfl, _⟩ := DataW.trod_bool ht h
  exact ⟨n, rfl, trivial⟩
theorem opens_string {t : TypeId} (ht : Try.prog.underlying t = some .string) : Opens enc w base spare held t Kd.string (fun s => s.size ≤ maxLen) := by
  intro fuel cs y h
  obtain ⟨n, rfl, _, hn⟩ := DataW.trod_string ht h
  exact ⟨n, rfl, hn⟩
theorem opens_slice {α : Type} {t e : TypeId} {d : Kd α} {Wf : α → Prop} (ht : Try.prog.underlying t = some (.slice e)) (hs : Try.prog.cellsOf e = d.sz) (h : Opens enc w base spare held e d Wf) : Opens enc w base spare held t (Kd.slice e d) (fun xs => ∀ x ∈ xs, Wf x) := by
  intro fuel cs y hr
  rcases open_slice ht hr with ⟨rfl, _⟩ | ⟨a, len, cap, m, n, D, Pl, rfl, _, hl, hm, hmm, _, hx⟩
  · exact ⟨[], ⟨none, 0, rfl, Nat.le_refl _, Kd.C_nil d w⟩, fun x hx => by cases hx⟩
  · have hlm : len ≤ m := by rw [hmm]; split <;> omega
    obtain ⟨xs, hlen, hq⟩ := list_choose (Q := fun i x => (∃ c, c.length = d.sz ∧ d.K w x c ∧ ∀ j u, c[j]? = some u → w.cell? (a.add (i * d.sz + j)) = some u) ∧ Wf x) len (fun i hi => by
      obtain ⟨cs', hc, ht'⟩ := hx i (by omega)
      obtain ⟨x, hK, hW⟩ := h _ _ _ ht'
      obtain ⟨_, hcl, hcell⟩ := World.cells?_some hc
      refine ⟨x, ⟨cs', by rw [hcl, hs], hK, fun j u hj => ?_⟩, hW⟩
      have hjl := (List.getElem?_eq_some_iff.1 hj).1
      rw [hs] at hcell
      rw [← addr_add_add, hcell j (by rw [← hs, ← hcl]; exact hjl)]
      exact hj)
    subst hlen
    refine ⟨xs, ⟨some a, cap, rfl, hl, rfl, ?_, fun _ => ⟨a, rfl, fun j p hj => (hq j p hj).1⟩⟩, fun x hx => ?_⟩
    · simp only [maxLen] at hm; omega
    · obtain ⟨i, hi, rfl⟩ := List.mem_iff_getElem.1 hx
      exact (hq i _ (List.getElem?_eq_getElem hi)).2
theorem opens_field {α : Type} {fs : Array Field} {t : TypeId} {o : Nat} {d : Kd α} {Wf : α → Prop} {n : Nat} {cs : List Value} {xs : List (DataW H × List MemPlace)} {f : Field} (i : Nat) (hf : fs[i]? = some f) (htf : f.type = t) (hof : f.offset = o) (hl : xs.length = fs.size)
    (hx : ∀ (i : Nat) (f : Field), fs[i]? = some f → DataW.trod enc Try.prog w base spare held n f.type ((cs.drop f.offset).take (Try.prog.cellsOf f.type)) = xs[i]?) (h : Opens enc w base spare held t d Wf) :
    ∃ x, d.K w x ((cs.drop o).take (Try.prog.cellsOf t)) ∧ Wf x := by
  have hi : i < xs.length := by rw [hl]; exact (Array.getElem?_eq_some_iff.1 hf).1
  have := hx i f hf
  rw [List.getElem?_eq_getElem hi, htf, hof] at this
  exact h _ _ _ this
end
end Go.Proofs.Ytddnbpgibfmolaa
