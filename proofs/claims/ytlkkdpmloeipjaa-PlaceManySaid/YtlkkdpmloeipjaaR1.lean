/- What the structs among the arguments read as. -/
import Derived.Test.YtlkkdpmloeipjaaR0
namespace Go.Proofs.Ytlkkdpmloeipjaa
open Go.RowKit Go.Proofs.YtlkkdpmloeipjaaW.PrintWords
open Go.Deep
set_option linter.unusedVariables false

structure WfTy (x : Ty) : Prop where
  sec : True
  len : (Lit.int .i64 x.len).wf = true
set_option maxRecDepth 100000 in
theorem opens_Ty {H : Type} {enc : TypeId × Value → H} {w : World} {base : Nat} {spare : Nat → Bool} {held : Bool} : Opens enc w base spare held 78 kTy WfTy := by
  intro fuel cs y h
  obtain ⟨xs, n, _, _, hlen, hxl, hx⟩ := DataW.trod_struct Try.underlying78 h
  have hc : Try.prog.cellsOf 78 = 2 := by kernel_rfl
  rw [hc] at hlen
  match cs, hlen with
  | [c0, c1], _ =>
    obtain ⟨v0, k0, w0⟩ := opens_field (t := 4) (o := 0) 0 rfl rfl rfl hxl hx (opens_bool Try.underlying4)
    rw [show Try.prog.cellsOf 4 = 1 by kernel_rfl] at k0
    have e0 : [c0] = _ := k0
    obtain rfl := (List.cons.inj e0).1
    obtain ⟨v1, k1, w1⟩ := opens_field (t := 3) (o := 1) 1 rfl rfl rfl hxl hx (opens_int Try.underlying3)
    rw [show Try.prog.cellsOf 3 = 1 by kernel_rfl] at k1
    have e1 : [c1] = _ := k1
    obtain rfl := (List.cons.inj e1).1
    exact ⟨⟨v0, v1⟩, kTy_mk w ⟨v0, v1⟩ , ⟨w0, w1⟩⟩

structure WfIr (x : Ir) : Prop where
  kind : (Lit.int .i64 x.kind).wf = true
  op : (Lit.int .i64 x.op).wf = true
  d : (Lit.int .i64 x.d).wf = true
  a : (Lit.int .i64 x.a).wf = true
  b : (Lit.int .i64 x.b).wf = true
  c : (Lit.int .i64 x.c).wf = true
  n : (Lit.int .u32 x.n).wf = true
  name : x.name.size ≤ maxLen
  args : ∀ y ∈ x.args, (Lit.int .i64 y).wf = true
set_option maxRecDepth 100000 in
theorem opens_Ir {H : Type} {enc : TypeId × Value → H} {w : World} {base : Nat} {spare : Nat → Bool} {held : Bool} : Opens enc w base spare held 33 kIr WfIr := by
  intro fuel cs y h
  obtain ⟨xs, n, _, _, hlen, hxl, hx⟩ := DataW.trod_struct Try.underlying33 h
  have hc : Try.prog.cellsOf 33 = 9 := by kernel_rfl
  rw [hc] at hlen
  match cs, hlen with
  | [c0, c1, c2, c3, c4, c5, c6, c7, c8], _ =>
    obtain ⟨v0, k0, w0⟩ := opens_field (t := 3) (o := 0) 0 rfl rfl rfl hxl hx (opens_int Try.underlying3)
    rw [show Try.prog.cellsOf 3 = 1 by kernel_rfl] at k0
    have e0 : [c0] = _ := k0
    obtain rfl := (List.cons.inj e0).1
    obtain ⟨v1, k1, w1⟩ := opens_field (t := 3) (o := 1) 1 rfl rfl rfl hxl hx (opens_int Try.underlying3)
    rw [show Try.prog.cellsOf 3 = 1 by kernel_rfl] at k1
    have e1 : [c1] = _ := k1
    obtain rfl := (List.cons.inj e1).1
    obtain ⟨v2, k2, w2⟩ := opens_field (t := 3) (o := 2) 2 rfl rfl rfl hxl hx (opens_int Try.underlying3)
    rw [show Try.prog.cellsOf 3 = 1 by kernel_rfl] at k2
    have e2 : [c2] = _ := k2
    obtain rfl := (List.cons.inj e2).1
    obtain ⟨v3, k3, w3⟩ := opens_field (t := 3) (o := 3) 3 rfl rfl rfl hxl hx (opens_int Try.underlying3)
    rw [show Try.prog.cellsOf 3 = 1 by kernel_rfl] at k3
    have e3 : [c3] = _ := k3
    obtain rfl := (List.cons.inj e3).1
    obtain ⟨v4, k4, w4⟩ := opens_field (t := 3) (o := 4) 4 rfl rfl rfl hxl hx (opens_int Try.underlying3)
    rw [show Try.prog.cellsOf 3 = 1 by kernel_rfl] at k4
    have e4 : [c4] = _ := k4
    obtain rfl := (List.cons.inj e4).1
    obtain ⟨v5, k5, w5⟩ := opens_field (t := 3) (o := 5) 5 rfl rfl rfl hxl hx (opens_int Try.underlying3)
    rw [show Try.prog.cellsOf 3 = 1 by kernel_rfl] at k5
    have e5 : [c5] = _ := k5
    obtain rfl := (List.cons.inj e5).1
    obtain ⟨v6, k6, w6⟩ := opens_field (t := 30) (o := 6) 6 rfl rfl rfl hxl hx (opens_int Try.underlying30)
    rw [show Try.prog.cellsOf 30 = 1 by kernel_rfl] at k6
    have e6 : [c6] = _ := k6
    obtain rfl := (List.cons.inj e6).1
    obtain ⟨v7, k7, w7⟩ := opens_field (t := 9) (o := 7) 7 rfl rfl rfl hxl hx (opens_string Try.underlying9)
    rw [show Try.prog.cellsOf 9 = 1 by kernel_rfl] at k7
    have e7 : [c7] = _ := k7
    obtain rfl := (List.cons.inj e7).1
    obtain ⟨v8, k8, w8⟩ := opens_field (t := 31) (o := 8) 8 rfl rfl rfl hxl hx (opens_slice Try.underlying31 (by kernel_rfl) (opens_int Try.underlying3))
    rw [show Try.prog.cellsOf 31 = 1 by kernel_rfl] at k8
    obtain ⟨A8, cap8, e8, l8, g8⟩ := k8
    obtain rfl := (List.cons.inj e8).1
    exact ⟨⟨v0, v1, v2, v3, v4, v5, v6, v7, v8⟩, kIr_mk w ⟨v0, v1, v2, v3, v4, v5, v6, v7, v8⟩ l8 g8, ⟨w0, w1, w2, w3, w4, w5, w6, w7, w8⟩⟩

structure WfCode (x : Code) : Prop where
  name : x.name.size ≤ maxLen
  params : ∀ y ∈ x.params, WfTy y
  regs : (Lit.int .i64 x.regs).wf = true
  cells : (Lit.int .i64 x.cells).wf = true
  l : ∀ y ∈ x.l, WfIr y
set_option maxRecDepth 100000 in
theorem opens_Code {H : Type} {enc : TypeId × Value → H} {w : World} {base : Nat} {spare : Nat → Bool} {held : Bool} : Opens enc w base spare held 25 kCode WfCode := by
  intro fuel cs y h
  obtain ⟨xs, n, _, _, hlen, hxl, hx⟩ := DataW.trod_struct Try.underlying25 h
  have hc : Try.prog.cellsOf 25 = 5 := by kernel_rfl
  rw [hc] at hlen
  match cs, hlen with
  | [c0, c1, c2, c3, c4], _ =>
    obtain ⟨v0, k0, w0⟩ := opens_field (t := 9) (o := 0) 0 rfl rfl rfl hxl hx (opens_string Try.underlying9)
    rw [show Try.prog.cellsOf 9 = 1 by kernel_rfl] at k0
    have e0 : [c0] = _ := k0
    obtain rfl := (List.cons.inj e0).1
    obtain ⟨v1, k1, w1⟩ := opens_field (t := 22) (o := 1) 1 rfl rfl rfl hxl hx (opens_slice Try.underlying22 (by kernel_rfl) opens_Ty)
    rw [show Try.prog.cellsOf 22 = 1 by kernel_rfl] at k1
    obtain ⟨A1, cap1, e1, l1, g1⟩ := k1
    obtain rfl := (List.cons.inj e1).1
    obtain ⟨v2, k2, w2⟩ := opens_field (t := 3) (o := 2) 2 rfl rfl rfl hxl hx (opens_int Try.underlying3)
    rw [show Try.prog.cellsOf 3 = 1 by kernel_rfl] at k2
    have e2 : [c2] = _ := k2
    obtain rfl := (List.cons.inj e2).1
    obtain ⟨v3, k3, w3⟩ := opens_field (t := 3) (o := 3) 3 rfl rfl rfl hxl hx (opens_int Try.underlying3)
    rw [show Try.prog.cellsOf 3 = 1 by kernel_rfl] at k3
    have e3 : [c3] = _ := k3
    obtain rfl := (List.cons.inj e3).1
    obtain ⟨v4, k4, w4⟩ := opens_field (t := 23) (o := 4) 4 rfl rfl rfl hxl hx (opens_slice Try.underlying23 (by kernel_rfl) opens_Ir)
    rw [show Try.prog.cellsOf 23 = 1 by kernel_rfl] at k4
    obtain ⟨A4, cap4, e4, l4, g4⟩ := k4
    obtain rfl := (List.cons.inj e4).1
    exact ⟨⟨v0, v1, v2, v3, v4⟩, kCode_mk w ⟨v0, v1, v2, v3, v4⟩ l1 g1 l4 g4, ⟨w0, w1, w2, w3, w4⟩⟩

end Go.Proofs.Ytlkkdpmloeipjaa
