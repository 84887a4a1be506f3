/- The arguments of the laws: functions, and spans. -/
import Derived.Test.YtlkkdpmloeipjaaR1
import Derived.Test.YtlkkdpmloeipjaaA11
namespace Go.Proofs.Ytlkkdpmloeipjaa
open Go.RowKit Go.Proofs.YtlkkdpmloeipjaaW.PrintWords Go.WideShapes
open Go.Deep
set_option linter.unusedVariables false
set_option maxRecDepth 100000

section
variable {H : Type} {enc : TypeId × Value → H} {w : World} {base b0 : Nat} {spare : Nat → Bool} {held : Bool} {r : Reach} {v : Value} {d : DataW H} {p : List MemPlace}
theorem arg_code (hv : Value.okWide Try.prog w r b0 25 v) (h : DataW.Trod enc Try.prog w base spare held 25 v d p) :
    ∃ c A1 c1 A4 c4, v = codeV c A1 c1 A4 c4 ∧ CodeAt w c A1 c1 A4 c4 ∧ WfCode c := by
  obtain ⟨cs, rfl, _⟩ := okWide_struct Try.underlying25 hv
  obtain ⟨fuel, hf⟩ := h
  obtain ⟨c, hK, hW⟩ := opens_Code _ _ _ hf
  obtain ⟨A1, c1, A4, c4, hcs, l1, g1, l4, g4⟩ := kCode_open hK
  have hcs' : cs.toList = _ := hcs
  have e : cs = (#[.string c.name, .slice A1 c.params.length c1, .int .i64 c.regs, .int .i64 c.cells, .slice A4 c.l.length c4] : Array Value) := by
    rw [← Array.toArray_toList (xs := cs), hcs']
  exact ⟨c, A1, c1, A4, c4, by rw [e], ⟨g1, l1, g4, l4⟩, hW⟩
theorem okWide_array {t e : TypeId} {n : Nat} (ht : Try.prog.underlying t = some (.array n e)) (h : Value.okWide Try.prog w r b0 t v) : ∃ cs, v = .agg cs ∧ cs.size = Try.prog.cellsOf t := by
  simp only [Value.okWide, ht] at h
  obtain ⟨cs, h1, h2, _⟩ := h
  exact ⟨cs, h1, h2⟩
theorem arg_sp (hv : Value.okWide Try.prog w r b0 26 v) (h : DataW.Trod enc Try.prog w base spare held 26 v d p) : ∃ s : Sp, v = .agg #[.int .i64 s.lo, .int .i64 s.hi] ∧ (Lit.int .i64 s.lo).wf = true ∧ (Lit.int .i64 s.hi).wf = true := by
  obtain ⟨cs, rfl, hsz⟩ := okWide_array Try.underlying26 hv
  rw [show Try.prog.cellsOf 26 = 2 by kernel_rfl] at hsz
  obtain ⟨fuel, hf⟩ := h
  obtain ⟨xs, m, _, _, hl, hxl, hx⟩ := DataW.trod_array Try.underlying26 hf
  rw [show Try.prog.cellsOf 3 = 1 by kernel_rfl] at hx
  obtain ⟨l, rfl⟩ : ∃ l, cs = (List.toArray l) := ⟨cs.toList, by simp⟩
  match l, hsz with
  | [c0, c1], _ =>
    have h0 := hx 0 (by decide)
    have h1 := hx 1 (by decide)
    rw [List.getElem?_eq_getElem (by omega)] at h0 h1
    obtain ⟨n0, e0, _, w0⟩ := DataW.trod_int Try.underlying3 h0
    obtain ⟨n1, e1, _, w1⟩ := DataW.trod_int Try.underlying3 h1
    have e0' : [c0] = [.int .i64 n0] := e0
    have e1' : [c1] = [.int .i64 n1] := e1
    obtain rfl := (List.cons.inj e0').1
    obtain rfl := (List.cons.inj e1').1
    exact ⟨⟨n0, n1⟩, rfl, w0, w1⟩
end
theorem own : ownKnob Try.prog.godebug = none := by kernel_rfl
theorem laidOut : laidOutB Try.prog = true := by kernel_rfl
end Go.Proofs.Ytlkkdpmloeipjaa
