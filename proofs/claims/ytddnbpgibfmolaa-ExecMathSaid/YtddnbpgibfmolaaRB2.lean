/- The arguments of the laws: images, objects, words. -/
import Derived.Test.YtddnbpgibfmolaaRB1
import Derived.Test.YtddnbpgibfmolaaX4
namespace Go.Proofs.Ytddnbpgibfmolaa
open Go.RowKit Go.Proofs.YtddnbpgibfmolaaW.PrintWords Go.WideShapes
open Go.Deep
set_option linter.unusedVariables false
set_option maxRecDepth 100000

section
variable {H : Type} {enc : TypeId × Value → H} {w : World} {base b0 : Nat} {spare : Nat → Bool} {held : Bool} {r : Reach} {v : Value} {d : DataW H} {p : List MemPlace}
theorem arg_image (hv : Value.okWide Try.prog w r b0 31 v) (h : DataW.Trod enc Try.prog w base spare held 31 v d p) :
    ∃ m A0 c0 A1 c1, v = imgV m A0 c0 A1 c1 ∧ ImgAt w m A0 c0 A1 c1 ∧ WfImage m := by
  obtain ⟨cs, rfl, _⟩ := okWide_struct Try.underlying31 hv
  obtain ⟨fuel, hf⟩ := h
  obtain ⟨m, hK, hW⟩ := opens_Image _ _ _ hf
  obtain ⟨A0, c0, A1, c1, hcs, l0, g0, l1, g1⟩ := kImage_open hK
  have hcs' : cs.toList = _ := hcs
  have e : cs = (#[.slice A0 m.entries.length c0, .slice A1 m.code.length c1, .int .i64 m.mem] : Array Value) := by
    rw [← Array.toArray_toList (xs := cs), hcs']
  exact ⟨m, A0, c0, A1, c1, by rw [e], ⟨g0, l0, g1, l1⟩, hW⟩
theorem okWide_array {t e : TypeId} {n : Nat} (ht : Try.prog.underlying t = some (.array n e)) (h : Value.okWide Try.prog w r b0 t v) : ∃ cs, v = .agg cs ∧ cs.size = Try.prog.cellsOf t := by
  simp only [Value.okWide, ht] at h
  obtain ⟨cs, h1, h2, _⟩ := h
  exact ⟨cs, h1, h2⟩
theorem arg_sp (hv : Value.okWide Try.prog w r b0 23 v) (h : DataW.Trod enc Try.prog w base spare held 23 v d p) : ∃ s : Sp, v = .agg #[.int .i64 s.lo, .int .i64 s.hi] ∧ (Lit.int .i64 s.lo).wf = true ∧ (Lit.int .i64 s.hi).wf = true := by
  obtain ⟨cs, rfl, hsz⟩ := okWide_array Try.underlying23 hv
  rw [show Try.prog.cellsOf 23 = 2 by kernel_rfl] at hsz
  obtain ⟨fuel, hf⟩ := h
  obtain ⟨xs, m, _, _, hl, hxl, hx⟩ := DataW.trod_array Try.underlying23 hf
  rw [show Try.prog.cellsOf 3 = 1 by kernel_rfl] at hx
  obtain ⟨l, rfl⟩ : ∃ l, cs = (List.toArray l) := ⟨cs.toList, by simp⟩
  match l, hsz with
  | [c0, c1], _ =>
    have h0 := hx 0 (by decide)
    have h1 := hx 1 (by decide)
    rw [List.getElem?_eq_getElem (by omega)] at h0 h1
    obtain ⟨n0, e0, _, w0⟩ := DataW.trod_int Try.underlying3 h0
    obtain ⟨n1, e1, _, w1⟩ := DataW.trod_int Try.underlying3 h1
    have e0' : [c0] = [.int .i64 n0] := e0
    have e1' : [c1] = [.int .i64 n1] := e1
    obtain rfl := (List.cons.inj e0').1
    obtain rfl := (List.cons.inj e1').1
    exact ⟨⟨n0, n1⟩, rfl, w0, w1⟩
end
theorem own : ownKnob Try.prog.godebug = none := by kernel_rfl
theorem laidOut : laidOutB Try.prog = true := by kernel_rfl
end Go.Proofs.Ytddnbpgibfmolaa
