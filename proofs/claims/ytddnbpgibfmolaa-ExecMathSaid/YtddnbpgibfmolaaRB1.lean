/- What the structs among the arguments read as. -/
import Derived.Test.YtddnbpgibfmolaaR0
namespace Go.Proofs.Ytddnbpgibfmolaa
open Go.RowKit Go.Proofs.YtddnbpgibfmolaaW.PrintWords
open Go.Deep
set_option linter.unusedVariables false

structure WfTy (x : Ty) : Prop where
  sec : True
  len : (Lit.int .i64 x.len).wf = true
set_option maxRecDepth 100000 in
theorem opens_Ty {H : Type} {enc : TypeId × Value → H} {w : World} {base : Nat} {spare : Nat → Bool} {held : Bool} : Opens enc w base spare held 33 kTy WfTy := by
  intro fuel cs y h
  obtain ⟨xs, n, _, _, hlen, hxl, hx⟩ := DataW.trod_struct Try.underlying33 h
  have hc : Try.prog.cellsOf 33 = 2 := by kernel_rfl
  rw [hc] at hlen
  match cs, hlen with
  | [c0, c1], _ =>
    obtain ⟨v0, k0, w0⟩ := opens_field (t := 4) (o := 0) 0 rfl rfl rfl hxl hx (opens_bool Try.underlying4)
    rw [show Try.prog.cellsOf 4 = 1 by kernel_rfl] at k0
    have e0 : [c0] = _ := k0
    obtain rfl := (List.cons.inj e0).1
    obtain ⟨v1, k1, w1⟩ := opens_field (t := 3) (o := 1) 1 rfl rfl rfl hxl hx (opens_int Try.underlying3)
    rw [show Try.prog.cellsOf 3 = 1 by kernel_rfl] at k1
    have e1 : [c1] = _ := k1
    obtain rfl := (List.cons.inj e1).1
    exact ⟨⟨v0, v1⟩, kTy_mk w ⟨v0, v1⟩ , ⟨w0, w1⟩⟩

structure WfMi (x : Mi) : Prop where
  kind : (Lit.int .i64 x.kind).wf = true
  op : (Lit.int .i64 x.op).wf = true
  d : (Lit.int .i64 x.d).wf = true
  a : (Lit.int .i64 x.a).wf = true
  b : (Lit.int .i64 x.b).wf = true
  n : (Lit.int .u32 x.n).wf = true
set_option maxRecDepth 100000 in
theorem opens_Mi {H : Type} {enc : TypeId × Value → H} {w : World} {base : Nat} {spare : Nat → Bool} {held : Bool} : Opens enc w base spare held 27 kMi WfMi := by
  intro fuel cs y h
  obtain ⟨xs, n, _, _, hlen, hxl, hx⟩ := DataW.trod_struct Try.underlying27 h
  have hc : Try.prog.cellsOf 27 = 6 := by kernel_rfl
  rw [hc] at hlen
  match cs, hlen with
  | [c0, c1, c2, c3, c4, c5], _ =>
    obtain ⟨v0, k0, w0⟩ := opens_field (t := 3) (o := 0) 0 rfl rfl rfl hxl hx (opens_int Try.underlying3)
    rw [show Try.prog.cellsOf 3 = 1 by kernel_rfl] at k0
    have e0 : [c0] = _ := k0
    obtain rfl := (List.cons.inj e0).1
    obtain ⟨v1, k1, w1⟩ := opens_field (t := 3) (o := 1) 1 rfl rfl rfl hxl hx (opens_int Try.underlying3)
    rw [show Try.prog.cellsOf 3 = 1 by kernel_rfl] at k1
    have e1 : [c1] = _ := k1
    obtain rfl := (List.cons.inj e1).1
    obtain ⟨v2, k2, w2⟩ := opens_field (t := 3) (o := 2) 2 rfl rfl rfl hxl hx (opens_int Try.underlying3)
    rw [show Try.prog.cellsOf 3 = 1 by kernel_rfl] at k2
    have e2 : [c2] = _ := k2
    obtain rfl := (List.cons.inj e2).1
    obtain ⟨v3, k3, w3⟩ := opens_field (t := 3) (o := 3) 3 rfl rfl rfl hxl hx (opens_int Try.underlying3)
    rw [show Try.prog.cellsOf 3 = 1 by kernel_rfl] at k3
    have e3 : [c3] = _ := k3
    obtain rfl := (List.cons.inj e3).1
    obtain ⟨v4, k4, w4⟩ := opens_field (t := 3) (o := 4) 4 rfl rfl rfl hxl hx (opens_int Try.underlying3)
    rw [show Try.prog.cellsOf 3 = 1 by kernel_rfl] at k4
    have e4 : [c4] = _ := k4
    obtain rfl := (List.cons.inj e4).1
    obtain ⟨v5, k5, w5⟩ := opens_field (t := 25) (o := 5) 5 rfl rfl rfl hxl hx (opens_int Try.underlying25)
    rw [show Try.prog.cellsOf 25 = 1 by kernel_rfl] at k5
    have e5 : [c5] = _ := k5
    obtain rfl := (List.cons.inj e5).1
    exact ⟨⟨v0, v1, v2, v3, v4, v5⟩, kMi_mk w ⟨v0, v1, v2, v3, v4, v5⟩ , ⟨w0, w1, w2, w3, w4, w5⟩⟩

structure WfEntry (x : Entry) : Prop where
  name : x.name.size ≤ maxLen
  params : ∀ y ∈ x.params, WfTy y
  pos : (Lit.int .i64 x.pos).wf = true
  base : (Lit.int .i64 x.base).wf = true
  cells : (Lit.int .i64 x.cells).wf = true
set_option maxRecDepth 100000 in
theorem opens_Entry {H : Type} {enc : TypeId × Value → H} {w : World} {base : Nat} {spare : Nat → Bool} {held : Bool} : Opens enc w base spare held 36 kEntry WfEntry := by
  intro fuel cs y h
  obtain ⟨xs, n, _, _, hlen, hxl, hx⟩ := DataW.trod_struct Try.underlying36 h
  have hc : Try.prog.cellsOf 36 = 5 := by kernel_rfl
  rw [hc] at hlen
  match cs, hlen with
  | [c0, c1, c2, c3, c4], _ =>
    obtain ⟨v0, k0, w0⟩ := opens_field (t := 9) (o := 0) 0 rfl rfl rfl hxl hx (opens_string Try.underlying9)
    rw [show Try.prog.cellsOf 9 = 1 by kernel_rfl] at k0
    have e0 : [c0] = _ := k0
    obtain rfl := (List.cons.inj e0).1
    obtain ⟨v1, k1, w1⟩ := opens_field (t := 34) (o := 1) 1 rfl rfl rfl hxl hx (opens_slice Try.underlying34 (by kernel_rfl) opens_Ty)
    rw [show Try.prog.cellsOf 34 = 1 by kernel_rfl] at k1
    obtain ⟨A1, cap1, e1, l1, g1⟩ := k1
    obtain rfl := (List.cons.inj e1).1
    obtain ⟨v2, k2, w2⟩ := opens_field (t := 3) (o := 2) 2 rfl rfl rfl hxl hx (opens_int Try.underlying3)
    rw [show Try.prog.cellsOf 3 = 1 by kernel_rfl] at k2
    have e2 : [c2] = _ := k2
    obtain rfl := (List.cons.inj e2).1
    obtain ⟨v3, k3, w3⟩ := opens_field (t := 3) (o := 3) 3 rfl rfl rfl hxl hx (opens_int Try.underlying3)
    rw [show Try.prog.cellsOf 3 = 1 by kernel_rfl] at k3
    have e3 : [c3] = _ := k3
    obtain rfl := (List.cons.inj e3).1
    obtain ⟨v4, k4, w4⟩ := opens_field (t := 3) (o := 4) 4 rfl rfl rfl hxl hx (opens_int Try.underlying3)
    rw [show Try.prog.cellsOf 3 = 1 by kernel_rfl] at k4
    have e4 : [c4] = _ := k4
    obtain rfl := (List.cons.inj e4).1
    exact ⟨⟨v0, v1, v2, v3, v4⟩, kEntry_mk w ⟨v0, v1, v2, v3, v4⟩ l1 g1, ⟨w0, w1, w2, w3, w4⟩⟩

structure WfImage (x : Image) : Prop where
  entries : ∀ y ∈ x.entries, WfEntry y
  code : ∀ y ∈ x.code, WfMi y
  mem : (Lit.int .i64 x.mem).wf = true
set_option maxRecDepth 100000 in
theorem opens_Image {H : Type} {enc : TypeId × Value → H} {w : World} {base : Nat} {spare : Nat → Bool} {held : Bool} : Opens enc w base spare held 31 kImage WfImage := by
  intro fuel cs y h
  obtain ⟨xs, n, _, _, hlen, hxl, hx⟩ := DataW.trod_struct Try.underlying31 h
  have hc : Try.prog.cellsOf 31 = 3 := by kernel_rfl
  rw [hc] at hlen
  match cs, hlen with
  | [c0, c1, c2], _ =>
    obtain ⟨v0, k0, w0⟩ := opens_field (t := 29) (o := 0) 0 rfl rfl rfl hxl hx (opens_slice Try.underlying29 (by kernel_rfl) opens_Entry)
    rw [show Try.prog.cellsOf 29 = 1 by kernel_rfl] at k0
    obtain ⟨A0, cap0, e0, l0, g0⟩ := k0
    obtain rfl := (List.cons.inj e0).1
    obtain ⟨v1, k1, w1⟩ := opens_field (t := 28) (o := 1) 1 rfl rfl rfl hxl hx (opens_slice Try.underlying28 (by kernel_rfl) opens_Mi)
    rw [show Try.prog.cellsOf 28 = 1 by kernel_rfl] at k1
    obtain ⟨A1, cap1, e1, l1, g1⟩ := k1
    obtain rfl := (List.cons.inj e1).1
    obtain ⟨v2, k2, w2⟩ := opens_field (t := 3) (o := 2) 2 rfl rfl rfl hxl hx (opens_int Try.underlying3)
    rw [show Try.prog.cellsOf 3 = 1 by kernel_rfl] at k2
    have e2 : [c2] = _ := k2
    obtain rfl := (List.cons.inj e2).1
    exact ⟨⟨v0, v1, v2⟩, kImage_mk w ⟨v0, v1, v2⟩ l0 g0 l1 g1, ⟨w0, w1, w2⟩⟩

structure WfFix (x : Fix) : Prop where
  pos : (Lit.int .i64 x.pos).wf = true
  name : x.name.size ≤ maxLen
  param : (Lit.int .i64 x.param).wf = true
set_option maxRecDepth 100000 in
theorem opens_Fix {H : Type} {enc : TypeId × Value → H} {w : World} {base : Nat} {spare : Nat → Bool} {held : Bool} : Opens enc w base spare held 86 kFix WfFix := by
  intro fuel cs y h
  obtain ⟨xs, n, _, _, hlen, hxl, hx⟩ := DataW.trod_struct Try.underlying86 h
  have hc : Try.prog.cellsOf 86 = 3 := by kernel_rfl
  rw [hc] at hlen
  match cs, hlen with
  | [c0, c1, c2], _ =>
    obtain ⟨v0, k0, w0⟩ := opens_field (t := 3) (o := 0) 0 rfl rfl rfl hxl hx (opens_int Try.underlying3)
    rw [show Try.prog.cellsOf 3 = 1 by kernel_rfl] at k0
    have e0 : [c0] = _ := k0
    obtain rfl := (List.cons.inj e0).1
    obtain ⟨v1, k1, w1⟩ := opens_field (t := 9) (o := 1) 1 rfl rfl rfl hxl hx (opens_string Try.underlying9)
    rw [show Try.prog.cellsOf 9 = 1 by kernel_rfl] at k1
    have e1 : [c1] = _ := k1
    obtain rfl := (List.cons.inj e1).1
    obtain ⟨v2, k2, w2⟩ := opens_field (t := 3) (o := 2) 2 rfl rfl rfl hxl hx (opens_int Try.underlying3)
    rw [show Try.prog.cellsOf 3 = 1 by kernel_rfl] at k2
    have e2 : [c2] = _ := k2
    obtain rfl := (List.cons.inj e2).1
    exact ⟨⟨v0, v1, v2⟩, kFix_mk w ⟨v0, v1, v2⟩ , ⟨w0, w1, w2⟩⟩

structure WfObjt (x : Objt) : Prop where
  name : x.name.size ≤ maxLen
  params : ∀ y ∈ x.params, WfTy y
  cells : (Lit.int .i64 x.cells).wf = true
  code : ∀ y ∈ x.code, WfMi y
  fixes : ∀ y ∈ x.fixes, WfFix y
set_option maxRecDepth 100000 in
theorem opens_Objt {H : Type} {enc : TypeId × Value → H} {w : World} {base : Nat} {spare : Nat → Bool} {held : Bool} : Opens enc w base spare held 55 kObjt WfObjt := by
  intro fuel cs y h
  obtain ⟨xs, n, _, _, hlen, hxl, hx⟩ := DataW.trod_struct Try.underlying55 h
  have hc : Try.prog.cellsOf 55 = 5 := by kernel_rfl
  rw [hc] at hlen
  match cs, hlen with
  | [c0, c1, c2, c3, c4], _ =>
    obtain ⟨v0, k0, w0⟩ := opens_field (t := 9) (o := 0) 0 rfl rfl rfl hxl hx (opens_string Try.underlying9)
    rw [show Try.prog.cellsOf 9 = 1 by kernel_rfl] at k0
    have e0 : [c0] = _ := k0
    obtain rfl := (List.cons.inj e0).1
    obtain ⟨v1, k1, w1⟩ := opens_field (t := 34) (o := 1) 1 rfl rfl rfl hxl hx (opens_slice Try.underlying34 (by kernel_rfl) opens_Ty)
    rw [show Try.prog.cellsOf 34 = 1 by kernel_rfl] at k1
    obtain ⟨A1, cap1, e1, l1, g1⟩ := k1
    obtain rfl := (List.cons.inj e1).1
    obtain ⟨v2, k2, w2⟩ := opens_field (t := 3) (o := 2) 2 rfl rfl rfl hxl hx (opens_int Try.underlying3)
    rw [show Try.prog.cellsOf 3 = 1 by kernel_rfl] at k2
    have e2 : [c2] = _ := k2
    obtain rfl := (List.cons.inj e2).1
    obtain ⟨v3, k3, w3⟩ := opens_field (t := 28) (o := 3) 3 rfl rfl rfl hxl hx (opens_slice Try.underlying28 (by kernel_rfl) opens_Mi)
    rw [show Try.prog.cellsOf 28 = 1 by kernel_rfl] at k3
    obtain ⟨A3, cap3, e3, l3, g3⟩ := k3
    obtain rfl := (List.cons.inj e3).1
    obtain ⟨v4, k4, w4⟩ := opens_field (t := 53) (o := 4) 4 rfl rfl rfl hxl hx (opens_slice Try.underlying53 (by kernel_rfl) opens_Fix)
    rw [show Try.prog.cellsOf 53 = 1 by kernel_rfl] at k4
    obtain ⟨A4, cap4, e4, l4, g4⟩ := k4
    obtain rfl := (List.cons.inj e4).1
    exact ⟨⟨v0, v1, v2, v3, v4⟩, kObjt_mk w ⟨v0, v1, v2, v3, v4⟩ l1 g1 l3 g3 l4 g4, ⟨w0, w1, w2, w3, w4⟩⟩

end Go.Proofs.Ytddnbpgibfmolaa
