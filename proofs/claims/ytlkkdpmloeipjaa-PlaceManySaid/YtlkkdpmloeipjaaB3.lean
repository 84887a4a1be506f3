/- What the laws over functions share. -/
import Derived.Test.YtlkkdpmloeipjaaB1
import Derived.Test.YtlkkdpmloeipjaaB2
import Derived.Test.YtlkkdpmloeipjaaA15
import Derived.Test.YtlkkdpmloeipjaaR2
namespace Go.Proofs.Ytlkkdpmloeipjaa
open Go.RowKit Go.Proofs.YtlkkdpmloeipjaaW.PrintWords
set_option linter.unusedVariables false

theorem wf_u32 {n : Int} (h : (Lit.int .u32 n).wf = true) : 0 ≤ n ∧ n < 4294967296 := by
  have := bounds_u32 h; omega
theorem codeOk_of {c : Code} (hw : WfCode c) (hl : lightC c = true) : CodeOk c := by
  simp only [lightC, Bool.and_eq_true, Bool.not_eq_true', bigC, decide_eq_false_iff_not, List.all_eq_true] at hl
  obtain ⟨hb, hs⟩ := hl
  have hs' : ∀ x ∈ c.l, x.name.size ≤ 100 ∧ x.args.length ≤ 20 := fun x hx => by have := hs x hx; simpa [smallIr] using this
  exact ⟨by omega, by omega, by omega, by omega, by omega, fun x hx => (hs' x hx).1, fun x hx => (hs' x hx).2, fun x hx => wf_u32 (hw.l x hx).n⟩
theorem C_code1 {W : World} {g : Nat} {c : Code} {A1 A4 : Option Addr} {c1 c4 : Nat} (hat : CodeAt W c A1 c1 A4 c4) (hb : W.heap[g]? = some (.cells #[.string c.name, .slice A1 c.params.length c1, .int .i64 c.regs, .int .i64 c.cells, .slice A4 c.l.length c4] 25 (0, 0))) :
    Kd.C kCode W (some ⟨g, 0, none⟩) 1 [c] := by
  refine C_blk (xs := [c]) hb ⟨rfl, fun j p hj => ?_⟩ (by simp)
  match j, hj with
  | 0, hj =>
    obtain rfl : c = p := Option.some.inj hj
    exact kCode_mk W c hat.pcap hat.params hat.lcap hat.l
  | j + 1, hj => simp at hj
/-- Light, called with the one function in a new block. -/
theorem light_lit (c : Code) (A1 : Option Addr) (c1 : Nat) (A4 : Option Addr) (c4 : Nat) (w W : World) (hat : CodeAt w c A1 c1 A4 c4) (hb : Below w.heap.size w W) :
    Calls Try.prog 18 #[.slice (some ⟨W.heap.size, 0, none⟩) 1 1] (W.alloc (.cells #[.string c.name, .slice A1 c.params.length c1, .int .i64 c.regs, .int .i64 c.cells, .slice A4 c.l.length c4] 25)) fun e w' => e = .returned (.bool (lightC c)) ∧ Below W.heap.size W w' :=
  (light_one c (some ⟨W.heap.size, 0, none⟩) 1 _ (C_code1 ((hat.below hb).below (below_alloc (Below.refl _ _) _)) (blk_new _ _))).mono fun e w' h => ⟨h.1, below_step (below_alloc (Below.refl _ _) _) h.2⟩
end Go.Proofs.Ytlkkdpmloeipjaa
