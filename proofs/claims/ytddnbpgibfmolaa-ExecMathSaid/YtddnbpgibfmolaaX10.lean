/- exec's step: whatever the instruction. -/
import Derived.Test.YtddnbpgibfmolaaX9
namespace Go.Proofs.Ytddnbpgibfmolaa
open Go.RowKit Go.Proofs.YtddnbpgibfmolaaW.PrintWords
set_option linter.unusedVariables false

theorem step_any (code : List Mi) (cells : Int) (A : Option Addr) (c : Nat) (w0 w : World) (B g gl gm : Nat) (bv lv : Value) (s : MSt) (out : List Leak) (h : MW w0 w B g gl gm (.slice A code.length c) bv lv s out) (hl : out.length ≤ 1500000)
    (hC : Kd.C kMi w A code.length code) (hf : CodeFine code cells) (hn : ∀ x ∈ code, 0 ≤ x.n ∧ x.n < 4294967296) (hok : MOk code cells s) (ho : s.over = false) (hfar : s.far = false) :
    Calls Try.prog 35 #[.pointer (some ⟨g, 0, none⟩), .func (.func 36) #[] #[.pointer (some ⟨gl, 0, none⟩)]] w fun e w' => e = .returned (.tuple #[]) ∧ ∃ bv' lv', MW w0 w' B g gl gm (.slice A code.length c) bv' lv' (stepE code s) (out ++ [leakE code s]) := by
  have hp1 := hok.p1 ho
  have hp0 := hok.p0
  have hx := atC_some hp0 hp1
  obtain ⟨hmi, hc, hj, hla⟩ := mw_zero (hf.each _ _ hx)
  have hxn := hn _ (List.mem_of_getElem? hx)
  have hmem := hok.mem
  have hbk := hok.bk hfar
  have hr := hok.regs
  have h32 := hok.r32
  unfold stepE leakE
  generalize atC code s.pos = x at *
  obtain ⟨d0, d7, a0, a7, b0, b7, k0, k9, ho3⟩ := mi_parts hmi
  obtain ⟨kd, o, d, a, b, n⟩ := x
  simp only at *
  obtain ⟨d, rfl⟩ := Int.eq_ofNat_of_zero_le d0
  obtain ⟨a, rfl⟩ := Int.eq_ofNat_of_zero_le a0
  obtain ⟨b, rfl⟩ := Int.eq_ofNat_of_zero_le b0
  obtain ⟨n, rfl⟩ := Int.eq_ofNat_of_zero_le hxn.1
  have hk : s.pos = (s.pos.toNat : Nat) := by omega
  rcases (show kd = 1 ∨ kd = 2 ∨ kd = 3 ∨ kd = 4 ∨ kd = 5 ∨ kd = 6 ∨ kd = 7 ∨ kd = 8 ∨ kd = 9 by omega) with rfl | rfl | rfl | rfl | rfl | rfl | rfl | rfl | rfl
  · exact step_1 o d a b n code s.pos.toNat A c w0 w B g gl gm bv lv s out h hl hC hx hk (by omega) hr (by omega) (by omega) (by omega)
  · exact step_2 o d a b n code s.pos.toNat A c w0 w B g gl gm bv lv s out h hl hC hx hk (by omega) hr (by omega) (by omega) (by omega)
  · exact step_3 o d a b n code s.pos.toNat A c w0 w B g gl gm bv lv s out h hl hC hx hk (by omega) hr (by omega) (by omega) (by omega) (ho3 rfl).1 (ho3 rfl).2 h32
  · have := hc (.inl rfl)
    exact step_4 o d a b n code s.pos.toNat A c w0 w B g gl gm bv lv s out h hl hC hx hk (by omega) hr (by omega) (by omega) (by omega) (by omega)
  · have := hc (.inr rfl)
    exact step_5 o d a b n code s.pos.toNat A c w0 w B g gl gm bv lv s out h hl hC hx hk (by omega) hr (by omega) (by omega) (by omega) (by omega)
  · exact step_6 o d a b n code s.pos.toNat A c w0 w B g gl gm bv lv s out h hl hC hx hk (by omega) hr (by omega) (by omega) (by omega)
  · exact step_7 o d a b n code s.pos.toNat A c w0 w B g gl gm bv lv s out h hl hC hx hk (by omega) hr (by omega) (by omega) (by omega)
  · exact step_8 o d a b n code s.pos.toNat A c w0 w B g gl gm bv lv s out h hl hC hx hk (by omega) hr (by omega) (by omega) (by omega) hbk
  · exact step_9 o d a b n code s.pos.toNat A c w0 w B g gl gm bv lv s out h hl hC hx hk (by omega) hr (by omega) (by omega) (by omega) hbk
end Go.Proofs.Ytddnbpgibfmolaa
