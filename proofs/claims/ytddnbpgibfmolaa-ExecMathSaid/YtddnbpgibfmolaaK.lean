/- The kinds of this seat's Go types: what a value's cells say of plain data. No condition. -/
import Derived.Test.YtddnbpgibfmolaaProg
import Derived.WalkKit
import Derived.BigQuiet
import Derived.Deep.QuietTactic
import Derived.WalkSpells
import Derived.WalkLawsBesides
import Derived.Test.YtddnbpgibfmolaaWWords
namespace Go.Proofs.Ytddnbpgibfmolaa
open Go.RowKit Go.Proofs.YtddnbpgibfmolaaW.PrintWords
set_option linter.unusedVariables false
def rd_L5 (xs : List (List Int)) (i : Int) : (List Int) := xs.getD i.toNat ([] : List Int)
theorem at_L5 {w : World} {A : Option Addr} {n : Nat} {xs : List (List Int)} (h : Kd.C (Kd.slice 3 (Kd.int .i64)) w A n xs) (i : Int) (h0 : 0 ≤ i) (h1 : i < n) : ∃ ad A0 c0, A = some ad ∧ w.cell? (ad.add i.toNat) = some (.slice A0 (rd_L5 xs i).length c0) ∧ (rd_L5 xs i).length ≤ c0 ∧ (Kd.int .i64).C w A0 (rd_L5 xs i).length (rd_L5 xs i) := by
  obtain ⟨ad, c, e, _, hK, hc0⟩ := Kd.C_get h ([] : List Int) i h0 h1
  have hc : ∀ j u, c[j]? = some u → w.cell? (ad.add (i.toNat * 1 + j)) = some u := hc0
  obtain ⟨A0, c0, rfl, l0, g0⟩ := hK
  exact ⟨ad, A0, c0, e, by have hq := hc 0 _ rfl; rwa [Nat.mul_one, Nat.add_zero] at hq, l0, g0⟩

def rd_L6 (xs : List (List Bool)) (i : Int) : (List Bool) := xs.getD i.toNat ([] : List Bool)
theorem at_L6 {w : World} {A : Option Addr} {n : Nat} {xs : List (List Bool)} (h : Kd.C (Kd.slice 4 Kd.bool) w A n xs) (i : Int) (h0 : 0 ≤ i) (h1 : i < n) : ∃ ad A0 c0, A = some ad ∧ w.cell? (ad.add i.toNat) = some (.slice A0 (rd_L6 xs i).length c0) ∧ (rd_L6 xs i).length ≤ c0 ∧ Kd.bool.C w A0 (rd_L6 xs i).length (rd_L6 xs i) := by
  obtain ⟨ad, c, e, _, hK, hc0⟩ := Kd.C_get h ([] : List Bool) i h0 h1
  have hc : ∀ j u, c[j]? = some u → w.cell? (ad.add (i.toNat * 1 + j)) = some u := hc0
  obtain ⟨A0, c0, rfl, l0, g0⟩ := hK
  exact ⟨ad, A0, c0, e, by have hq := hc 0 _ rfl; rwa [Nat.mul_one, Nat.add_zero] at hq, l0, g0⟩

def rd_L7 (xs : List (List Int)) (i : Int) : (List Int) := xs.getD i.toNat ([] : List Int)
theorem at_L7 {w : World} {A : Option Addr} {n : Nat} {xs : List (List Int)} (h : Kd.C (Kd.slice 25 (Kd.int .u32)) w A n xs) (i : Int) (h0 : 0 ≤ i) (h1 : i < n) : ∃ ad A0 c0, A = some ad ∧ w.cell? (ad.add i.toNat) = some (.slice A0 (rd_L7 xs i).length c0) ∧ (rd_L7 xs i).length ≤ c0 ∧ (Kd.int .u32).C w A0 (rd_L7 xs i).length (rd_L7 xs i) := by
  obtain ⟨ad, c, e, _, hK, hc0⟩ := Kd.C_get h ([] : List Int) i h0 h1
  have hc : ∀ j u, c[j]? = some u → w.cell? (ad.add (i.toNat * 1 + j)) = some u := hc0
  obtain ⟨A0, c0, rfl, l0, g0⟩ := hK
  exact ⟨ad, A0, c0, e, by have hq := hc 0 _ rfl; rwa [Nat.mul_one, Nat.add_zero] at hq, l0, g0⟩

def rd_L8 (xs : List (List Int)) (i : Int) : (List Int) := xs.getD i.toNat ([] : List Int)
theorem at_L8 {w : World} {A : Option Addr} {n : Nat} {xs : List (List Int)} (h : Kd.C (Kd.slice 5 (Kd.int .u8)) w A n xs) (i : Int) (h0 : 0 ≤ i) (h1 : i < n) : ∃ ad A0 c0, A = some ad ∧ w.cell? (ad.add i.toNat) = some (.slice A0 (rd_L8 xs i).length c0) ∧ (rd_L8 xs i).length ≤ c0 ∧ (Kd.int .u8).C w A0 (rd_L8 xs i).length (rd_L8 xs i) := by
  obtain ⟨ad, c, e, _, hK, hc0⟩ := Kd.C_get h ([] : List Int) i h0 h1
  have hc : ∀ j u, c[j]? = some u → w.cell? (ad.add (i.toNat * 1 + j)) = some u := hc0
  obtain ⟨A0, c0, rfl, l0, g0⟩ := hK
  exact ⟨ad, A0, c0, e, by have hq := hc 0 _ rfl; rwa [Nat.mul_one, Nat.add_zero] at hq, l0, g0⟩

def rd_L9 (xs : List (List ByteArray)) (i : Int) : (List ByteArray) := xs.getD i.toNat ([] : List ByteArray)
theorem at_L9 {w : World} {A : Option Addr} {n : Nat} {xs : List (List ByteArray)} (h : Kd.C (Kd.slice 9 Kd.string) w A n xs) (i : Int) (h0 : 0 ≤ i) (h1 : i < n) : ∃ ad A0 c0, A = some ad ∧ w.cell? (ad.add i.toNat) = some (.slice A0 (rd_L9 xs i).length c0) ∧ (rd_L9 xs i).length ≤ c0 ∧ Kd.string.C w A0 (rd_L9 xs i).length (rd_L9 xs i) := by
  obtain ⟨ad, c, e, _, hK, hc0⟩ := Kd.C_get h ([] : List ByteArray) i h0 h1
  have hc : ∀ j u, c[j]? = some u → w.cell? (ad.add (i.toNat * 1 + j)) = some u := hc0
  obtain ⟨A0, c0, rfl, l0, g0⟩ := hK
  exact ⟨ad, A0, c0, e, by have hq := hc 0 _ rfl; rwa [Nat.mul_one, Nat.add_zero] at hq, l0, g0⟩

/-! #### struct Ty (33) -/
structure Ty where
  sec : Bool
  len : Int
def zTy : Ty := ⟨false, (0 : Int)⟩
def kTy : Kd Ty := Kd.iso (Kd.pair Kd.bool (Kd.int .i64)) (fun x : Ty => (x.sec, x.len))
theorem kTy_open {w : World} {x : Ty} {cs : List Value} (h : kTy.K w x cs) : cs = [.bool x.sec, .int .i64 x.len] := by
  obtain ⟨_, _, rfl, rfl, rfl⟩ := h
  exact rfl
theorem kTy_openM {w : World} {base : Nat} {ok : Nat → Prop} {x : Ty} {cs : List Value} (h : kTy.M w base ok x cs) : cs = [.bool x.sec, .int .i64 x.len] := by
  obtain ⟨_, _, rfl, rfl, rfl⟩ := h
  exact rfl
theorem kTy_mk (w : World) (x : Ty)  : kTy.K w x [.bool x.sec, .int .i64 x.len] := ⟨[.bool x.sec], [.int .i64 x.len], rfl, rfl, rfl⟩
theorem kTy_mkM (w : World) (base : Nat) (ok : Nat → Prop) (x : Ty)  : kTy.M w base ok x [.bool x.sec, .int .i64 x.len] := ⟨[.bool x.sec], [.int .i64 x.len], rfl, rfl, rfl⟩
def rd_Ty (xs : List Ty) (i : Int) : Ty := xs.getD i.toNat zTy
theorem at_Ty {w : World} {A : Option Addr} {n : Nat} {xs : List Ty} (h : Kd.C kTy w A n xs) (i : Int) (h0 : 0 ≤ i) (h1 : i < n) : ∃ ad , A = some ad ∧ w.cell? (ad.add (i.toNat * 2)) = some (.bool (rd_Ty xs i).sec) ∧ w.cell? ⟨(ad.add (i.toNat * 2)).block, (ad.add (i.toNat * 2)).off + 1, none⟩ = some (.int .i64 (rd_Ty xs i).len) := by
  obtain ⟨ad, c, e, _, hK, hc0⟩ := Kd.C_get h zTy i h0 h1
  have hc : ∀ j u, c[j]? = some u → w.cell? (ad.add (i.toNat * 2 + j)) = some u := hc0
  obtain rfl := kTy_open hK
  exact ⟨ad, e, hc 0 _ rfl, by rw [← add_field _ _ 1 (by omega)]; exact hc 1 _ rfl⟩

def rd_L11 (xs : List (List Ty)) (i : Int) : (List Ty) := xs.getD i.toNat ([] : List Ty)
theorem at_L11 {w : World} {A : Option Addr} {n : Nat} {xs : List (List Ty)} (h : Kd.C (Kd.slice 33 kTy) w A n xs) (i : Int) (h0 : 0 ≤ i) (h1 : i < n) : ∃ ad A0 c0, A = some ad ∧ w.cell? (ad.add i.toNat) = some (.slice A0 (rd_L11 xs i).length c0) ∧ (rd_L11 xs i).length ≤ c0 ∧ kTy.C w A0 (rd_L11 xs i).length (rd_L11 xs i) := by
  obtain ⟨ad, c, e, _, hK, hc0⟩ := Kd.C_get h ([] : List Ty) i h0 h1
  have hc : ∀ j u, c[j]? = some u → w.cell? (ad.add (i.toNat * 1 + j)) = some u := hc0
  obtain ⟨A0, c0, rfl, l0, g0⟩ := hK
  exact ⟨ad, A0, c0, e, by have hq := hc 0 _ rfl; rwa [Nat.mul_one, Nat.add_zero] at hq, l0, g0⟩

/-! #### struct Sp (23) -/
structure Sp where
  lo : Int
  hi : Int
def zSp : Sp := ⟨(0 : Int), (0 : Int)⟩
def kSp : Kd Sp := Kd.iso (Kd.pair (Kd.int .i64) (Kd.int .i64)) (fun x : Sp => (x.lo, x.hi))
theorem kSp_open {w : World} {x : Sp} {cs : List Value} (h : kSp.K w x cs) : cs = [.int .i64 x.lo, .int .i64 x.hi] := by
  obtain ⟨_, _, rfl, rfl, rfl⟩ := h
  exact rfl
theorem kSp_openM {w : World} {base : Nat} {ok : Nat → Prop} {x : Sp} {cs : List Value} (h : kSp.M w base ok x cs) : cs = [.int .i64 x.lo, .int .i64 x.hi] := by
  obtain ⟨_, _, rfl, rfl, rfl⟩ := h
  exact rfl
theorem kSp_mk (w : World) (x : Sp)  : kSp.K w x [.int .i64 x.lo, .int .i64 x.hi] := ⟨[.int .i64 x.lo], [.int .i64 x.hi], rfl, rfl, rfl⟩
theorem kSp_mkM (w : World) (base : Nat) (ok : Nat → Prop) (x : Sp)  : kSp.M w base ok x [.int .i64 x.lo, .int .i64 x.hi] := ⟨[.int .i64 x.lo], [.int .i64 x.hi], rfl, rfl, rfl⟩
def rd_Sp (xs : List Sp) (i : Int) : Sp := xs.getD i.toNat zSp
theorem at_Sp {w : World} {A : Option Addr} {n : Nat} {xs : List Sp} (h : Kd.C kSp w A n xs) (i : Int) (h0 : 0 ≤ i) (h1 : i < n) : ∃ ad , A = some ad ∧ w.cell? (ad.add (i.toNat * 2)) = some (.int .i64 (rd_Sp xs i).lo) ∧ w.cell? ⟨(ad.add (i.toNat * 2)).block, (ad.add (i.toNat * 2)).off + 1, none⟩ = some (.int .i64 (rd_Sp xs i).hi) := by
  obtain ⟨ad, c, e, _, hK, hc0⟩ := Kd.C_get h zSp i h0 h1
  have hc : ∀ j u, c[j]? = some u → w.cell? (ad.add (i.toNat * 2 + j)) = some u := hc0
  obtain rfl := kSp_open hK
  exact ⟨ad, e, hc 0 _ rfl, by rw [← add_field _ _ 1 (by omega)]; exact hc 1 _ rfl⟩

def rd_L13 (xs : List (List Sp)) (i : Int) : (List Sp) := xs.getD i.toNat ([] : List Sp)
theorem at_L13 {w : World} {A : Option Addr} {n : Nat} {xs : List (List Sp)} (h : Kd.C (Kd.slice 23 kSp) w A n xs) (i : Int) (h0 : 0 ≤ i) (h1 : i < n) : ∃ ad A0 c0, A = some ad ∧ w.cell? (ad.add i.toNat) = some (.slice A0 (rd_L13 xs i).length c0) ∧ (rd_L13 xs i).length ≤ c0 ∧ kSp.C w A0 (rd_L13 xs i).length (rd_L13 xs i) := by
  obtain ⟨ad, c, e, _, hK, hc0⟩ := Kd.C_get h ([] : List Sp) i h0 h1
  have hc : ∀ j u, c[j]? = some u → w.cell? (ad.add (i.toNat * 1 + j)) = some u := hc0
  obtain ⟨A0, c0, rfl, l0, g0⟩ := hK
  exact ⟨ad, A0, c0, e, by have hq := hc 0 _ rfl; rwa [Nat.mul_one, Nat.add_zero] at hq, l0, g0⟩

/-! #### struct Mi (27) -/
structure Mi where
  kind : Int
  op : Int
  d : Int
  a : Int
  b : Int
  n : Int
def zMi : Mi := ⟨(0 : Int), (0 : Int), (0 : Int), (0 : Int), (0 : Int), (0 : Int)⟩
def kMi : Kd Mi := Kd.iso (Kd.pair (Kd.int .i64) (Kd.pair (Kd.int .i64) (Kd.pair (Kd.int .i64) (Kd.pair (Kd.int .i64) (Kd.pair (Kd.int .i64) (Kd.int .u32)))))) (fun x : Mi => (x.kind, x.op, x.d, x.a, x.b, x.n))
theorem kMi_open {w : World} {x : Mi} {cs : List Value} (h : kMi.K w x cs) : cs = [.int .i64 x.kind, .int .i64 x.op, .int .i64 x.d, .int .i64 x.a, .int .i64 x.b, .int .u32 x.n] := by
  obtain ⟨_, _, rfl, rfl, ⟨_, _, rfl, rfl, ⟨_, _, rfl, rfl, ⟨_, _, rfl, rfl, ⟨_, _, rfl, rfl, rfl⟩⟩⟩⟩⟩ := h
  exact rfl
theorem kMi_openM {w : World} {base : Nat} {ok : Nat → Prop} {x : Mi} {cs : List Value} (h : kMi.M w base ok x cs) : cs = [.int .i64 x.kind, .int .i64 x.op, .int .i64 x.d, .int .i64 x.a, .int .i64 x.b, .int .u32 x.n] := by
  obtain ⟨_, _, rfl, rfl, ⟨_, _, rfl, rfl, ⟨_, _, rfl, rfl, ⟨_, _, rfl, rfl, ⟨_, _, rfl, rfl, rfl⟩⟩⟩⟩⟩ := h
  exact rfl
theorem kMi_mk (w : World) (x : Mi)  : kMi.K w x [.int .i64 x.kind, .int .i64 x.op, .int .i64 x.d, .int .i64 x.a, .int .i64 x.b, .int .u32 x.n] := ⟨[.int .i64 x.kind], [.int .i64 x.op, .int .i64 x.d, .int .i64 x.a, .int .i64 x.b, .int .u32 x.n], rfl, rfl, ⟨[.int .i64 x.op], [.int .i64 x.d, .int .i64 x.a, .int .i64 x.b, .int .u32 x.n], rfl, rfl, ⟨[.int .i64 x.d], [.int .i64 x.a, .int .i64 x.b, .int .u32 x.n], rfl, rfl, ⟨[.int .i64 x.a], [.int .i64 x.b, .int .u32 x.n], rfl, rfl, ⟨[.int .i64 x.b], [.int .u32 x.n], rfl, rfl, rfl⟩⟩⟩⟩⟩
theorem kMi_mkM (w : World) (base : Nat) (ok : Nat → Prop) (x : Mi)  : kMi.M w base ok x [.int .i64 x.kind, .int .i64 x.op, .int .i64 x.d, .int .i64 x.a, .int .i64 x.b, .int .u32 x.n] := ⟨[.int .i64 x.kind], [.int .i64 x.op, .int .i64 x.d, .int .i64 x.a, .int .i64 x.b, .int .u32 x.n], rfl, rfl, ⟨[.int .i64 x.op], [.int .i64 x.d, .int .i64 x.a, .int .i64 x.b, .int .u32 x.n], rfl, rfl, ⟨[.int .i64 x.d], [.int .i64 x.a, .int .i64 x.b, .int .u32 x.n], rfl, rfl, ⟨[.int .i64 x.a], [.int .i64 x.b, .int .u32 x.n], rfl, rfl, ⟨[.int .i64 x.b], [.int .u32 x.n], rfl, rfl, rfl⟩⟩⟩⟩⟩
def rd_Mi (xs : List Mi) (i : Int) : Mi := xs.getD i.toNat zMi
theorem at_Mi {w : World} {A : Option Addr} {n : Nat} {xs : List Mi} (h : Kd.C kMi w A n xs) (i : Int) (h0 : 0 ≤ i) (h1 : i < n) : ∃ ad , A = some ad ∧ w.cell? (ad.add (i.toNat * 6)) = some (.int .i64 (rd_Mi xs i).kind) ∧ w.cell? ⟨(ad.add (i.toNat * 6)).block, (ad.add (i.toNat * 6)).off + 1, none⟩ = some (.int .i64 (rd_Mi xs i).op) ∧ w.cell? ⟨(ad.add (i.toNat * 6)).block, (ad.add (i.toNat * 6)).off + 2, none⟩ = some (.int .i64 (rd_Mi xs i).d) ∧ w.cell? ⟨(ad.add (i.toNat * 6)).block, (ad.add (i.toNat * 6)).off + 3, none⟩ = some (.int .i64 (rd_Mi xs i).a) ∧ w.cell? ⟨(ad.add (i.toNat * 6)).block, (ad.add (i.toNat * 6)).off + 4, none⟩ = some (.int .i64 (rd_Mi xs i).b) ∧ w.cell? ⟨(ad.add (i.toNat * 6)).block, (ad.add (i.toNat * 6)).off + 5, none⟩ = some (.int .u32 (rd_Mi xs i).n) := by
  obtain ⟨ad, c, e, _, hK, hc0⟩ := Kd.C_get h zMi i h0 h1
  have hc : ∀ j u, c[j]? = some u → w.cell? (ad.add (i.toNat * 6 + j)) = some u := hc0
  obtain rfl := kMi_open hK
  exact ⟨ad, e, hc 0 _ rfl, by rw [← add_field _ _ 1 (by omega)]; exact hc 1 _ rfl, by rw [← add_field _ _ 2 (by omega)]; exact hc 2 _ rfl, by rw [← add_field _ _ 3 (by omega)]; exact hc 3 _ rfl, by rw [← add_field _ _ 4 (by omega)]; exact hc 4 _ rfl, by rw [← add_field _ _ 5 (by omega)]; exact hc 5 _ rfl⟩

def rd_L15 (xs : List (List Mi)) (i : Int) : (List Mi) := xs.getD i.toNat ([] : List Mi)
theorem at_L15 {w : World} {A : Option Addr} {n : Nat} {xs : List (List Mi)} (h : Kd.C (Kd.slice 27 kMi) w A n xs) (i : Int) (h0 : 0 ≤ i) (h1 : i < n) : ∃ ad A0 c0, A = some ad ∧ w.cell? (ad.add i.toNat) = some (.slice A0 (rd_L15 xs i).length c0) ∧ (rd_L15 xs i).length ≤ c0 ∧ kMi.C w A0 (rd_L15 xs i).length (rd_L15 xs i) := by
  obtain ⟨ad, c, e, _, hK, hc0⟩ := Kd.C_get h ([] : List Mi) i h0 h1
  have hc : ∀ j u, c[j]? = some u → w.cell? (ad.add (i.toNat * 1 + j)) = some u := hc0
  obtain ⟨A0, c0, rfl, l0, g0⟩ := hK
  exact ⟨ad, A0, c0, e, by have hq := hc 0 _ rfl; rwa [Nat.mul_one, Nat.add_zero] at hq, l0, g0⟩

/-! #### struct Fix (86) -/
structure Fix where
  pos : Int
  name : ByteArray
  param : Int
def zFix : Fix := ⟨(0 : Int), (⟨#[]⟩ : ByteArray), (0 : Int)⟩
def kFix : Kd Fix := Kd.iso (Kd.pair (Kd.int .i64) (Kd.pair Kd.string (Kd.int .i64))) (fun x : Fix => (x.pos, x.name, x.param))
theorem kFix_open {w : World} {x : Fix} {cs : List Value} (h : kFix.K w x cs) : cs = [.int .i64 x.pos, .string x.name, .int .i64 x.param] := by
  obtain ⟨_, _, rfl, rfl, ⟨_, _, rfl, rfl, rfl⟩⟩ := h
  exact rfl
theorem kFix_openM {w : World} {base : Nat} {ok : Nat → Prop} {x : Fix} {cs : List Value} (h : kFix.M w base ok x cs) : cs = [.int .i64 x.pos, .string x.name, .int .i64 x.param] := by
  obtain ⟨_, _, rfl, rfl, ⟨_, _, rfl, rfl, rfl⟩⟩ := h
  exact rfl
theorem kFix_mk (w : World) (x : Fix)  : kFix.K w x [.int .i64 x.pos, .string x.name, .int .i64 x.param] := ⟨[.int .i64 x.pos], [.string x.name, .int .i64 x.param], rfl, rfl, ⟨[.string x.name], [.int .i64 x.param], rfl, rfl, rfl⟩⟩
theorem kFix_mkM (w : World) (base : Nat) (ok : Nat → Prop) (x : Fix)  : kFix.M w base ok x [.int .i64 x.pos, .string x.name, .int .i64 x.param] := ⟨[.int .i64 x.pos], [.string x.name, .int .i64 x.param], rfl, rfl, ⟨[.string x.name], [.int .i64 x.param], rfl, rfl, rfl⟩⟩
def rd_Fix (xs : List Fix) (i : Int) : Fix := xs.getD i.toNat zFix
theorem at_Fix {w : World} {A : Option Addr} {n : Nat} {xs : List Fix} (h : Kd.C kFix w A n xs) (i : Int) (h0 : 0 ≤ i) (h1 : i < n) : ∃ ad , A = some ad ∧ w.cell? (ad.add (i.toNat * 3)) = some (.int .i64 (rd_Fix xs i).pos) ∧ w.cell? ⟨(ad.add (i.toNat * 3)).block, (ad.add (i.toNat * 3)).off + 1, none⟩ = some (.string (rd_Fix xs i).name) ∧ w.cell? ⟨(ad.add (i.toNat * 3)).block, (ad.add (i.toNat * 3)).off + 2, none⟩ = some (.int .i64 (rd_Fix xs i).param) := by
  obtain ⟨ad, c, e, _, hK, hc0⟩ := Kd.C_get h zFix i h0 h1
  have hc : ∀ j u, c[j]? = some u → w.cell? (ad.add (i.toNat * 3 + j)) = some u := hc0
  obtain rfl := kFix_open hK
  exact ⟨ad, e, hc 0 _ rfl, by rw [← add_field _ _ 1 (by omega)]; exact hc 1 _ rfl, by rw [← add_field _ _ 2 (by omega)]; exact hc 2 _ rfl⟩

def rd_L17 (xs : List (List Fix)) (i : Int) : (List Fix) := xs.getD i.toNat ([] : List Fix)
theorem at_L17 {w : World} {A : Option Addr} {n : Nat} {xs : List (List Fix)} (h : Kd.C (Kd.slice 86 kFix) w A n xs) (i : Int) (h0 : 0 ≤ i) (h1 : i < n) : ∃ ad A0 c0, A = some ad ∧ w.cell? (ad.add i.toNat) = some (.slice A0 (rd_L17 xs i).length c0) ∧ (rd_L17 xs i).length ≤ c0 ∧ kFix.C w A0 (rd_L17 xs i).length (rd_L17 xs i) := by
  obtain ⟨ad, c, e, _, hK, hc0⟩ := Kd.C_get h ([] : List Fix) i h0 h1
  have hc : ∀ j u, c[j]? = some u → w.cell? (ad.add (i.toNat * 1 + j)) = some u := hc0
  obtain ⟨A0, c0, rfl, l0, g0⟩ := hK
  exact ⟨ad, A0, c0, e, by have hq := hc 0 _ rfl; rwa [Nat.mul_one, Nat.add_zero] at hq, l0, g0⟩

/-! #### struct Objt (55) -/
structure Objt where
  name : ByteArray
  params : (List Ty)
  cells : Int
  code : (List Mi)
  fixes : (List Fix)
def zObjt : Objt := ⟨(⟨#[]⟩ : ByteArray), ([] : List Ty), (0 : Int), ([] : List Mi), ([] : List Fix)⟩
def kObjt : Kd Objt := Kd.iso (Kd.pair Kd.string (Kd.pair (Kd.slice 33 kTy) (Kd.pair (Kd.int .i64) (Kd.pair (Kd.slice 27 kMi) (Kd.slice 86 kFix))))) (fun x : Objt => (x.name, x.params, x.cells, x.code, x.fixes))
theorem kObjt_open {w : World} {x : Objt} {cs : List Value} (h : kObjt.K w x cs) : ∃ A1 c1 A3 c3 A4 c4, cs = [.string x.name, .slice A1 x.params.length c1, .int .i64 x.cells, .slice A3 x.code.length c3, .slice A4 x.fixes.length c4] ∧ x.params.length ≤ c1 ∧ kTy.C w A1 x.params.length x.params ∧ x.code.length ≤ c3 ∧ kMi.C w A3 x.code.length x.code ∧ x.fixes.length ≤ c4 ∧ kFix.C w A4 x.fixes.length x.fixes := by
  obtain ⟨_, _, rfl, rfl, ⟨_, _, rfl, ⟨A1, c1, rfl, l1, g1⟩, ⟨_, _, rfl, rfl, ⟨_, _, rfl, ⟨A3, c3, rfl, l3, g3⟩, ⟨A4, c4, rfl, l4, g4⟩⟩⟩⟩⟩ := h
  exact ⟨A1, c1, A3, c3, A4, c4, rfl, l1, g1, l3, g3, l4, g4⟩
theorem kObjt_openM {w : World} {base : Nat} {ok : Nat → Prop} {x : Objt} {cs : List Value} (h : kObjt.M w base ok x cs) : ∃ v1 v3 v4, cs = [.string x.name, v1, .int .i64 x.cells, v3, v4] ∧ kTy.R 33 w base ok v1 x.params ∧ kMi.R 27 w base ok v3 x.code ∧ kFix.R 86 w base ok v4 x.fixes := by
  obtain ⟨_, _, rfl, rfl, ⟨_, _, rfl, ⟨v1, rfl, g1⟩, ⟨_, _, rfl, rfl, ⟨_, _, rfl, ⟨v3, rfl, g3⟩, ⟨v4, rfl, g4⟩⟩⟩⟩⟩ := h
  exact ⟨v1, v3, v4, rfl, g1, g3, g4⟩
theorem kObjt_mk (w : World) (x : Objt) {A1 : Option Addr} {c1 : Nat} (l1 : x.params.length ≤ c1) (g1 : kTy.C w A1 x.params.length x.params) {A3 : Option Addr} {c3 : Nat} (l3 : x.code.length ≤ c3) (g3 : kMi.C w A3 x.code.length x.code) {A4 : Option Addr} {c4 : Nat} (l4 : x.fixes.length ≤ c4) (g4 : kFix.C w A4 x.fixes.length x.fixes) : kObjt.K w x [.string x.name, .slice A1 x.params.length c1, .int .i64 x.cells, .slice A3 x.code.length c3, .slice A4 x.fixes.length c4] := ⟨[.string x.name], [.slice A1 x.params.length c1, .int .i64 x.cells, .slice A3 x.code.length c3, .slice A4 x.fixes.length c4], rfl, rfl, ⟨[.slice A1 x.params.length c1], [.int .i64 x.cells, .slice A3 x.code.length c3, .slice A4 x.fixes.length c4], rfl, ⟨A1, c1, rfl, l1, g1⟩, ⟨[.int .i64 x.cells], [.slice A3 x.code.length c3, .slice A4 x.fixes.length c4], rfl, rfl, ⟨[.slice A3 x.code.length c3], [.slice A4 x.fixes.length c4], rfl, ⟨A3, c3, rfl, l3, g3⟩, ⟨A4, c4, rfl, l4, g4⟩⟩⟩⟩⟩
theorem kObjt_mkM (w : World) (base : Nat) (ok : Nat → Prop) (x : Objt) {v1 : Value} (g1 : kTy.R 33 w base ok v1 x.params) {v3 : Value} (g3 : kMi.R 27 w base ok v3 x.code) {v4 : Value} (g4 : kFix.R 86 w base ok v4 x.fixes) : kObjt.M w base ok x [.string x.name, v1, .int .i64 x.cells, v3, v4] := ⟨[.string x.name], [v1, .int .i64 x.cells, v3, v4], rfl, rfl, ⟨[v1], [.int .i64 x.cells, v3, v4], rfl, ⟨v1, rfl, g1⟩, ⟨[.int .i64 x.cells], [v3, v4], rfl, rfl, ⟨[v3], [v4], rfl, ⟨v3, rfl, g3⟩, ⟨v4, rfl, g4⟩⟩⟩⟩⟩
def rd_Objt (xs : List Objt) (i : Int) : Objt := xs.getD i.toNat zObjt
theorem at_Objt {w : World} {A : Option Addr} {n : Nat} {xs : List Objt} (h : Kd.C kObjt w A n xs) (i : Int) (h0 : 0 ≤ i) (h1 : i < n) : ∃ ad A1 c1 A3 c3 A4 c4, A = some ad ∧ w.cell? (ad.add (i.toNat * 5)) = some (.string (rd_Objt xs i).name) ∧ w.cell? ⟨(ad.add (i.toNat * 5)).block, (ad.add (i.toNat * 5)).off + 1, none⟩ = some (.slice A1 (rd_Objt xs i).params.length c1) ∧ w.cell? ⟨(ad.add (i.toNat * 5)).block, (ad.add (i.toNat * 5)).off + 2, none⟩ = some (.int .i64 (rd_Objt xs i).cells) ∧ w.cell? ⟨(ad.add (i.toNat * 5)).block, (ad.add (i.toNat * 5)).off + 3, none⟩ = some (.slice A3 (rd_Objt xs i).code.length c3) ∧ w.cell? ⟨(ad.add (i.toNat * 5)).block, (ad.add (i.toNat * 5)).off + 4, none⟩ = some (.slice A4 (rd_Objt xs i).fixes.length c4) ∧ (rd_Objt xs i).params.length ≤ c1 ∧ kTy.C w A1 (rd_Objt xs i).params.length (rd_Objt xs i).params ∧ (rd_Objt xs i).code.length ≤ c3 ∧ kMi.C w A3 (rd_Objt xs i).code.length (rd_Objt xs i).code ∧ (rd_Objt xs i).fixes.length ≤ c4 ∧ kFix.C w A4 (rd_Objt xs i).fixes.length (rd_Objt xs i).fixes := by
  obtain ⟨ad, c, e, _, hK, hc0⟩ := Kd.C_get h zObjt i h0 h1
  have hc : ∀ j u, c[j]? = some u → w.cell? (ad.add (i.toNat * 5 + j)) = some u := hc0
  obtain ⟨A1, c1, A3, c3, A4, c4, rfl, l1, g1, l3, g3, l4, g4⟩ := kObjt_open hK
  exact ⟨ad, A1, c1, A3, c3, A4, c4, e, hc 0 _ rfl, by rw [← add_field _ _ 1 (by omega)]; exact hc 1 _ rfl, by rw [← add_field _ _ 2 (by omega)]; exact hc 2 _ rfl, by rw [← add_field _ _ 3 (by omega)]; exact hc 3 _ rfl, by rw [← add_field _ _ 4 (by omega)]; exact hc 4 _ rfl, l1, g1, l3, g3, l4, g4⟩

def rd_L19 (xs : List (List Objt)) (i : Int) : (List Objt) := xs.getD i.toNat ([] : List Objt)
theorem at_L19 {w : World} {A : Option Addr} {n : Nat} {xs : List (List Objt)} (h : Kd.C (Kd.slice 55 kObjt) w A n xs) (i : Int) (h0 : 0 ≤ i) (h1 : i < n) : ∃ ad A0 c0, A = some ad ∧ w.cell? (ad.add i.toNat) = some (.slice A0 (rd_L19 xs i).length c0) ∧ (rd_L19 xs i).length ≤ c0 ∧ kObjt.C w A0 (rd_L19 xs i).length (rd_L19 xs i) := by
  obtain ⟨ad, c, e, _, hK, hc0⟩ := Kd.C_get h ([] : List Objt) i h0 h1
  have hc : ∀ j u, c[j]? = some u → w.cell? (ad.add (i.toNat * 1 + j)) = some u := hc0
  obtain ⟨A0, c0, rfl, l0, g0⟩ := hK
  exact ⟨ad, A0, c0, e, by have hq := hc 0 _ rfl; rwa [Nat.mul_one, Nat.add_zero] at hq, l0, g0⟩

/-! #### struct Entry (36) -/
structure Entry where
  name : ByteArray
  params : (List Ty)
  pos : Int
  base : Int
  cells : Int
def zEntry : Entry := ⟨(⟨#[]⟩ : ByteArray), ([] : List Ty), (0 : Int), (0 : Int), (0 : Int)⟩
def kEntry : Kd Entry := Kd.iso (Kd.pair Kd.string (Kd.pair (Kd.slice 33 kTy) (Kd.pair (Kd.int .i64) (Kd.pair (Kd.int .i64) (Kd.int .i64))))) (fun x : Entry => (x.name, x.params, x.pos, x.base, x.cells))
theorem kEntry_open {w : World} {x : Entry} {cs : List Value} (h : kEntry.K w x cs) : ∃ A1 c1, cs = [.string x.name, .slice A1 x.params.length c1, .int .i64 x.pos, .int .i64 x.base, .int .i64 x.cells] ∧ x.params.length ≤ c1 ∧ kTy.C w A1 x.params.length x.params := by
  obtain ⟨_, _, rfl, rfl, ⟨_, _, rfl, ⟨A1, c1, rfl, l1, g1⟩, ⟨_, _, rfl, rfl, ⟨_, _, rfl, rfl, rfl⟩⟩⟩⟩ := h
  exact ⟨A1, c1, rfl, l1, g1⟩
theorem kEntry_openM {w : World} {base : Nat} {ok : Nat → Prop} {x : Entry} {cs : List Value} (h : kEntry.M w base ok x cs) : ∃ v1, cs = [.string x.name, v1, .int .i64 x.pos, .int .i64 x.base, .int .i64 x.cells] ∧ kTy.R 33 w base ok v1 x.params := by
  obtain ⟨_, _, rfl, rfl, ⟨_, _, rfl, ⟨v1, rfl, g1⟩, ⟨_, _, rfl, rfl, ⟨_, _, rfl, rfl, rfl⟩⟩⟩⟩ := h
  exact ⟨v1, rfl, g1⟩
theorem kEntry_mk (w : World) (x : Entry) {A1 : Option Addr} {c1 : Nat} (l1 : x.params.length ≤ c1) (g1 : kTy.C w A1 x.params.length x.params) : kEntry.K w x [.string x.name, .slice A1 x.params.length c1, .int .i64 x.pos, .int .i64 x.base, .int .i64 x.cells] := ⟨[.string x.name], [.slice A1 x.params.length c1, .int .i64 x.pos, .int .i64 x.base, .int .i64 x.cells], rfl, rfl, ⟨[.slice A1 x.params.length c1], [.int .i64 x.pos, .int .i64 x.base, .int .i64 x.cells], rfl, ⟨A1, c1, rfl, l1, g1⟩, ⟨[.int .i64 x.pos], [.int .i64 x.base, .int .i64 x.cells], rfl, rfl, ⟨[.int .i64 x.base], [.int .i64 x.cells], rfl, rfl, rfl⟩⟩⟩⟩
theorem kEntry_mkM (w : World) (base : Nat) (ok : Nat → Prop) (x : Entry) {v1 : Value} (g1 : kTy.R 33 w base ok v1 x.params) : kEntry.M w base ok x [.string x.name, v1, .int .i64 x.pos, .int .i64 x.base, .int .i64 x.cells] := ⟨[.string x.name], [v1, .int .i64 x.pos, .int .i64 x.base, .int .i64 x.cells], rfl, rfl, ⟨[v1], [.int .i64 x.pos, .int .i64 x.base, .int .i64 x.cells], rfl, ⟨v1, rfl, g1⟩, ⟨[.int .i64 x.pos], [.int .i64 x.base, .int .i64 x.cells], rfl, rfl, ⟨[.int .i64 x.base], [.int .i64 x.cells], rfl, rfl, rfl⟩⟩⟩⟩
def rd_Entry (xs : List Entry) (i : Int) : Entry := xs.getD i.toNat zEntry
theorem at_Entry {w : World} {A : Option Addr} {n : Nat} {xs : List Entry} (h : Kd.C kEntry w A n xs) (i : Int) (h0 : 0 ≤ i) (h1 : i < n) : ∃ ad A1 c1, A = some ad ∧ w.cell? (ad.add (i.toNat * 5)) = some (.string (rd_Entry xs i).name) ∧ w.cell? ⟨(ad.add (i.toNat * 5)).block, (ad.add (i.toNat * 5)).off + 1, none⟩ = some (.slice A1 (rd_Entry xs i).params.length c1) ∧ w.cell? ⟨(ad.add (i.toNat * 5)).block, (ad.add (i.toNat * 5)).off + 2, none⟩ = some (.int .i64 (rd_Entry xs i).pos) ∧ w.cell? ⟨(ad.add (i.toNat * 5)).block, (ad.add (i.toNat * 5)).off + 3, none⟩ = some (.int .i64 (rd_Entry xs i).base) ∧ w.cell? ⟨(ad.add (i.toNat * 5)).block, (ad.add (i.toNat * 5)).off + 4, none⟩ = some (.int .i64 (rd_Entry xs i).cells) ∧ (rd_Entry xs i).params.length ≤ c1 ∧ kTy.C w A1 (rd_Entry xs i).params.length (rd_Entry xs i).params := by
  obtain ⟨ad, c, e, _, hK, hc0⟩ := Kd.C_get h zEntry i h0 h1
  have hc : ∀ j u, c[j]? = some u → w.cell? (ad.add (i.toNat * 5 + j)) = some u := hc0
  obtain ⟨A1, c1, rfl, l1, g1⟩ := kEntry_open hK
  exact ⟨ad, A1, c1, e, hc 0 _ rfl, by rw [← add_field _ _ 1 (by omega)]; exact hc 1 _ rfl, by rw [← add_field _ _ 2 (by omega)]; exact hc 2 _ rfl, by rw [← add_field _ _ 3 (by omega)]; exact hc 3 _ rfl, by rw [← add_field _ _ 4 (by omega)]; exact hc 4 _ rfl, l1, g1⟩

def rd_L21 (xs : List (List Entry)) (i : Int) : (List Entry) := xs.getD i.toNat ([] : List Entry)
theorem at_L21 {w : World} {A : Option Addr} {n : Nat} {xs : List (List Entry)} (h : Kd.C (Kd.slice 36 kEntry) w A n xs) (i : Int) (h0 : 0 ≤ i) (h1 : i < n) : ∃ ad A0 c0, A = some ad ∧ w.cell? (ad.add i.toNat) = some (.slice A0 (rd_L21 xs i).length c0) ∧ (rd_L21 xs i).length ≤ c0 ∧ kEntry.C w A0 (rd_L21 xs i).length (rd_L21 xs i) := by
  obtain ⟨ad, c, e, _, hK, hc0⟩ := Kd.C_get h ([] : List Entry) i h0 h1
  have hc : ∀ j u, c[j]? = some u → w.cell? (ad.add (i.toNat * 1 + j)) = some u := hc0
  obtain ⟨A0, c0, rfl, l0, g0⟩ := hK
  exact ⟨ad, A0, c0, e, by have hq := hc 0 _ rfl; rwa [Nat.mul_one, Nat.add_zero] at hq, l0, g0⟩

/-! #### struct Image (31) -/
structure Image where
  entries : (List Entry)
  code : (List Mi)
  mem : Int
def zImage : Image := ⟨([] : List Entry), ([] : List Mi), (0 : Int)⟩
def kImage : Kd Image := Kd.iso (Kd.pair (Kd.slice 36 kEntry) (Kd.pair (Kd.slice 27 kMi) (Kd.int .i64))) (fun x : Image => (x.entries, x.code, x.mem))
theorem kImage_open {w : World} {x : Image} {cs : List Value} (h : kImage.K w x cs) : ∃ A0 c0 A1 c1, cs = [.slice A0 x.entries.length c0, .slice A1 x.code.length c1, .int .i64 x.mem] ∧ x.entries.length ≤ c0 ∧ kEntry.C w A0 x.entries.length x.entries ∧ x.code.length ≤ c1 ∧ kMi.C w A1 x.code.length x.code := by
  obtain ⟨_, _, rfl, ⟨A0, c0, rfl, l0, g0⟩, ⟨_, _, rfl, ⟨A1, c1, rfl, l1, g1⟩, rfl⟩⟩ := h
  exact ⟨A0, c0, A1, c1, rfl, l0, g0, l1, g1⟩
theorem kImage_openM {w : World} {base : Nat} {ok : Nat → Prop} {x : Image} {cs : List Value} (h : kImage.M w base ok x cs) : ∃ v0 v1, cs = [v0, v1, .int .i64 x.mem] ∧ kEntry.R 36 w base ok v0 x.entries ∧ kMi.R 27 w base ok v1 x.code := by
  obtain ⟨_, _, rfl, ⟨v0, rfl, g0⟩, ⟨_, _, rfl, ⟨v1, rfl, g1⟩, rfl⟩⟩ := h
  exact ⟨v0, v1, rfl, g0, g1⟩
theorem kImage_mk (w : World) (x : Image) {A0 : Option Addr} {c0 : Nat} (l0 : x.entries.length ≤ c0) (g0 : kEntry.C w A0 x.entries.length x.entries) {A1 : Option Addr} {c1 : Nat} (l1 : x.code.length ≤ c1) (g1 : kMi.C w A1 x.code.length x.code) : kImage.K w x [.slice A0 x.entries.length c0, .slice A1 x.code.length c1, .int .i64 x.mem] := ⟨[.slice A0 x.entries.length c0], [.slice A1 x.code.length c1, .int .i64 x.mem], rfl, ⟨A0, c0, rfl, l0, g0⟩, ⟨[.slice A1 x.code.length c1], [.int .i64 x.mem], rfl, ⟨A1, c1, rfl, l1, g1⟩, rfl⟩⟩
theorem kImage_mkM (w : World) (base : Nat) (ok : Nat → Prop) (x : Image) {v0 : Value} (g0 : kEntry.R 36 w base ok v0 x.entries) {v1 : Value} (g1 : kMi.R 27 w base ok v1 x.code) : kImage.M w base ok x [v0, v1, .int .i64 x.mem] := ⟨[v0], [v1, .int .i64 x.mem], rfl, ⟨v0, rfl, g0⟩, ⟨[v1], [.int .i64 x.mem], rfl, ⟨v1, rfl, g1⟩, rfl⟩⟩
def rd_Image (xs : List Image) (i : Int) : Image := xs.getD i.toNat zImage
theorem at_Image {w : World} {A : Option Addr} {n : Nat} {xs : List Image} (h : Kd.C kImage w A n xs) (i : Int) (h0 : 0 ≤ i) (h1 : i < n) : ∃ ad A0 c0 A1 c1, A = some ad ∧ w.cell? (ad.add (i.toNat * 3)) = some (.slice A0 (rd_Image xs i).entries.length c0) ∧ w.cell? ⟨(ad.add (i.toNat * 3)).block, (ad.add (i.toNat * 3)).off + 1, none⟩ = some (.slice A1 (rd_Image xs i).code.length c1) ∧ w.cell? ⟨(ad.add (i.toNat * 3)).block, (ad.add (i.toNat * 3)).off + 2, none⟩ = some (.int .i64 (rd_Image xs i).mem) ∧ (rd_Image xs i).entries.length ≤ c0 ∧ kEntry.C w A0 (rd_Image xs i).entries.length (rd_Image xs i).entries ∧ (rd_Image xs i).code.length ≤ c1 ∧ kMi.C w A1 (rd_Image xs i).code.length (rd_Image xs i).code := by
  obtain ⟨ad, c, e, _, hK, hc0⟩ := Kd.C_get h zImage i h0 h1
  have hc : ∀ j u, c[j]? = some u → w.cell? (ad.add (i.toNat * 3 + j)) = some u := hc0
  obtain ⟨A0, c0, A1, c1, rfl, l0, g0, l1, g1⟩ := kImage_open hK
  exact ⟨ad, A0, c0, A1, c1, e, hc 0 _ rfl, by rw [← add_field _ _ 1 (by omega)]; exact hc 1 _ rfl, by rw [← add_field _ _ 2 (by omega)]; exact hc 2 _ rfl, l0, g0, l1, g1⟩

/-! #### struct Leak (48) -/
structure Leak where
  pos : Int
  cell : Int
def zLeak : Leak := ⟨(0 : Int), (0 : Int)⟩
def kLeak : Kd Leak := Kd.iso (Kd.pair (Kd.int .i64) (Kd.int .i64)) (fun x : Leak => (x.pos, x.cell))
theorem kLeak_open {w : World} {x : Leak} {cs : List Value} (h : kLeak.K w x cs) : cs = [.int .i64 x.pos, .int .i64 x.cell] := by
  obtain ⟨_, _, rfl, rfl, rfl⟩ := h
  exact rfl
theorem kLeak_openM {w : World} {base : Nat} {ok : Nat → Prop} {x : Leak} {cs : List Value} (h : kLeak.M w base ok x cs) : cs = [.int .i64 x.pos, .int .i64 x.cell] := by
  obtain ⟨_, _, rfl, rfl, rfl⟩ := h
  exact rfl
theorem kLeak_mk (w : World) (x : Leak)  : kLeak.K w x [.int .i64 x.pos, .int .i64 x.cell] := ⟨[.int .i64 x.pos], [.int .i64 x.cell], rfl, rfl, rfl⟩
theorem kLeak_mkM (w : World) (base : Nat) (ok : Nat → Prop) (x : Leak)  : kLeak.M w base ok x [.int .i64 x.pos, .int .i64 x.cell] := ⟨[.int .i64 x.pos], [.int .i64 x.cell], rfl, rfl, rfl⟩
def rd_Leak (xs : List Leak) (i : Int) : Leak := xs.getD i.toNat zLeak
theorem at_Leak {w : World} {A : Option Addr} {n : Nat} {xs : List Leak} (h : Kd.C kLeak w A n xs) (i : Int) (h0 : 0 ≤ i) (h1 : i < n) : ∃ ad , A = some ad ∧ w.cell? (ad.add (i.toNat * 2)) = some (.int .i64 (rd_Leak xs i).pos) ∧ w.cell? ⟨(ad.add (i.toNat * 2)).block, (ad.add (i.toNat * 2)).off + 1, none⟩ = some (.int .i64 (rd_Leak xs i).cell) := by
  obtain ⟨ad, c, e, _, hK, hc0⟩ := Kd.C_get h zLeak i h0 h1
  have hc : ∀ j u, c[j]? = some u → w.cell? (ad.add (i.toNat * 2 + j)) = some u := hc0
  obtain rfl := kLeak_open hK
  exact ⟨ad, e, hc 0 _ rfl, by rw [← add_field _ _ 1 (by omega)]; exact hc 1 _ rfl⟩

def rd_L24 (xs : List (List Leak)) (i : Int) : (List Leak) := xs.getD i.toNat ([] : List Leak)
theorem at_L24 {w : World} {A : Option Addr} {n : Nat} {xs : List (List Leak)} (h : Kd.C (Kd.slice 48 kLeak) w A n xs) (i : Int) (h0 : 0 ≤ i) (h1 : i < n) : ∃ ad A0 c0, A = some ad ∧ w.cell? (ad.add i.toNat) = some (.slice A0 (rd_L24 xs i).length c0) ∧ (rd_L24 xs i).length ≤ c0 ∧ kLeak.C w A0 (rd_L24 xs i).length (rd_L24 xs i) := by
  obtain ⟨ad, c, e, _, hK, hc0⟩ := Kd.C_get h ([] : List Leak) i h0 h1
  have hc : ∀ j u, c[j]? = some u → w.cell? (ad.add (i.toNat * 1 + j)) = some u := hc0
  obtain ⟨A0, c0, rfl, l0, g0⟩ := hK
  exact ⟨ad, A0, c0, e, by have hq := hc 0 _ rfl; rwa [Nat.mul_one, Nat.add_zero] at hq, l0, g0⟩


/-! ### elements by a Nat index, in a later world -/
theorem nt_scalar {α : Type} {enc : α → Value} {h1 : ∀ x, (enc x).oneCell' = true} {w w1 : World} {A : Option Addr} {xs : List α} (h : (Kd.scalar enc h1).C w A xs.length xs) (hb : Below w.heap.size w w1) (k : Nat) (hk : k < xs.length) :
    ∃ ad x, A = some ad ∧ xs[k]? = some x ∧ w1.cell? (ad.add k) = some (enc x) := by
  obtain ⟨ad, c, e, hx, hK, hc0⟩ := Kd.C_get (Kd.C_below h hb) xs[k] (k : Int) (by omega) (by omega)
  have hc : ∀ j u, c[j]? = some u → w1.cell? (ad.add ((k : Int).toNat * 1 + j)) = some u := hc0
  obtain rfl : c = [enc (xs.getD (k : Int).toNat xs[k])] := hK
  refine ⟨ad, xs[k], e, by simp [hk], ?_⟩
  have := hc 0 _ rfl
  simpa [List.getD, hk] using this

theorem nt_L5 {w w1 : World} {A : Option Addr} {xs : List (List Int)} (h : Kd.C (Kd.slice 3 (Kd.int .i64)) w A xs.length xs) (hb : Below w.heap.size w w1) (k : Nat) (hk : k < xs.length) : ∃ x : (List Int), ∃ ad A0 c0, A = some ad ∧ xs[k]? = some x ∧ w1.cell? (ad.add k) = some (.slice A0 x.length c0) ∧ x.length ≤ c0 ∧ (Kd.int .i64).C w1 A0 x.length x := by
  have e : rd_L5 xs (k : Int) = xs[k] := by simp [rd_L5, List.getD, hk]
  have g := at_L5 (Kd.C_below h hb) (k : Int) (by omega) (by omega)
  rw [e] at g
  obtain ⟨ad, A0, c0, ea, g⟩ := g
  exact ⟨xs[k], ad, A0, c0, ea, by simp [hk], g⟩
theorem nt_L6 {w w1 : World} {A : Option Addr} {xs : List (List Bool)} (h : Kd.C (Kd.slice 4 Kd.bool) w A xs.length xs) (hb : Below w.heap.size w w1) (k : Nat) (hk : k < xs.length) : ∃ x : (List Bool), ∃ ad A0 c0, A = some ad ∧ xs[k]? = some x ∧ w1.cell? (ad.add k) = some (.slice A0 x.length c0) ∧ x.length ≤ c0 ∧ Kd.bool.C w1 A0 x.length x := by
  have e : rd_L6 xs (k : Int) = xs[k] := by simp [rd_L6, List.getD, hk]
  have g := at_L6 (Kd.C_below h hb) (k : Int) (by omega) (by omega)
  rw [e] at g
  obtain ⟨ad, A0, c0, ea, g⟩ := g
  exact ⟨xs[k], ad, A0, c0, ea, by simp [hk], g⟩
theorem nt_L7 {w w1 : World} {A : Option Addr} {xs : List (List Int)} (h : Kd.C (Kd.slice 25 (Kd.int .u32)) w A xs.length xs) (hb : Below w.heap.size w w1) (k : Nat) (hk : k < xs.length) : ∃ x : (List Int), ∃ ad A0 c0, A = some ad ∧ xs[k]? = some x ∧ w1.cell? (ad.add k) = some (.slice A0 x.length c0) ∧ x.length ≤ c0 ∧ (Kd.int .u32).C w1 A0 x.length x := by
  have e : rd_L7 xs (k : Int) = xs[k] := by simp [rd_L7, List.getD, hk]
  have g := at_L7 (Kd.C_below h hb) (k : Int) (by omega) (by omega)
  rw [e] at g
  obtain ⟨ad, A0, c0, ea, g⟩ := g
  exact ⟨xs[k], ad, A0, c0, ea, by simp [hk], g⟩
theorem nt_L8 {w w1 : World} {A : Option Addr} {xs : List (List Int)} (h : Kd.C (Kd.slice 5 (Kd.int .u8)) w A xs.length xs) (hb : Below w.heap.size w w1) (k : Nat) (hk : k < xs.length) : ∃ x : (List Int), ∃ ad A0 c0, A = some ad ∧ xs[k]? = some x ∧ w1.cell? (ad.add k) = some (.slice A0 x.length c0) ∧ x.length ≤ c0 ∧ (Kd.int .u8).C w1 A0 x.length x := by
  have e : rd_L8 xs (k : Int) = xs[k] := by simp [rd_L8, List.getD, hk]
  have g := at_L8 (Kd.C_below h hb) (k : Int) (by omega) (by omega)
  rw [e] at g
  obtain ⟨ad, A0, c0, ea, g⟩ := g
  exact ⟨xs[k], ad, A0, c0, ea, by simp [hk], g⟩
theorem nt_L9 {w w1 : World} {A : Option Addr} {xs : List (List ByteArray)} (h : Kd.C (Kd.slice 9 Kd.string) w A xs.length xs) (hb : Below w.heap.size w w1) (k : Nat) (hk : k < xs.length) : ∃ x : (List ByteArray), ∃ ad A0 c0, A = some ad ∧ xs[k]? = some x ∧ w1.cell? (ad.add k) = some (.slice A0 x.length c0) ∧ x.length ≤ c0 ∧ Kd.string.C w1 A0 x.length x := by
  have e : rd_L9 xs (k : Int) = xs[k] := by simp [rd_L9, List.getD, hk]
  have g := at_L9 (Kd.C_below h hb) (k : Int) (by omega) (by omega)
  rw [e] at g
  obtain ⟨ad, A0, c0, ea, g⟩ := g
  exact ⟨xs[k], ad, A0, c0, ea, by simp [hk], g⟩
theorem nt_Ty {w w1 : World} {A : Option Addr} {xs : List Ty} (h : Kd.C kTy w A xs.length xs) (hb : Below w.heap.size w w1) (k : Nat) (hk : k < xs.length) : ∃ x : Ty, ∃ ad , A = some ad ∧ xs[k]? = some x ∧ w1.cell? (ad.add (k * 2)) = some (.bool x.sec) ∧ w1.cell? ⟨(ad.add (k * 2)).block, (ad.add (k * 2)).off + 1, none⟩ = some (.int .i64 x.len) := by
  have e : rd_Ty xs (k : Int) = xs[k] := by simp [rd_Ty, List.getD, hk]
  have g := at_Ty (Kd.C_below h hb) (k : Int) (by omega) (by omega)
  rw [e] at g
  obtain ⟨ad, ea, g⟩ := g
  exact ⟨xs[k], ad, ea, by simp [hk], g⟩
theorem nt_L11 {w w1 : World} {A : Option Addr} {xs : List (List Ty)} (h : Kd.C (Kd.slice 33 kTy) w A xs.length xs) (hb : Below w.heap.size w w1) (k : Nat) (hk : k < xs.length) : ∃ x : (List Ty), ∃ ad A0 c0, A = some ad ∧ xs[k]? = some x ∧ w1.cell? (ad.add k) = some (.slice A0 x.length c0) ∧ x.length ≤ c0 ∧ kTy.C w1 A0 x.length x := by
  have e : rd_L11 xs (k : Int) = xs[k] := by simp [rd_L11, List.getD, hk]
  have g := at_L11 (Kd.C_below h hb) (k : Int) (by omega) (by omega)
  rw [e] at g
  obtain ⟨ad, A0, c0, ea, g⟩ := g
  exact ⟨xs[k], ad, A0, c0, ea, by simp [hk], g⟩
theorem nt_Sp {w w1 : World} {A : Option Addr} {xs : List Sp} (h : Kd.C kSp w A xs.length xs) (hb : Below w.heap.size w w1) (k : Nat) (hk : k < xs.length) : ∃ x : Sp, ∃ ad , A = some ad ∧ xs[k]? = some x ∧ w1.cell? (ad.add (k * 2)) = some (.int .i64 x.lo) ∧ w1.cell? ⟨(ad.add (k * 2)).block, (ad.add (k * 2)).off + 1, none⟩ = some (.int .i64 x.hi) := by
  have e : rd_Sp xs (k : Int) = xs[k] := by simp [rd_Sp, List.getD, hk]
  have g := at_Sp (Kd.C_below h hb) (k : Int) (by omega) (by omega)
  rw [e] at g
  obtain ⟨ad, ea, g⟩ := g
  exact ⟨xs[k], ad, ea, by simp [hk], g⟩
theorem nt_L13 {w w1 : World} {A : Option Addr} {xs : List (List Sp)} (h : Kd.C (Kd.slice 23 kSp) w A xs.length xs) (hb : Below w.heap.size w w1) (k : Nat) (hk : k < xs.length) : ∃ x : (List Sp), ∃ ad A0 c0, A = some ad ∧ xs[k]? = some x ∧ w1.cell? (ad.add k) = some (.slice A0 x.length c0) ∧ x.length ≤ c0 ∧ kSp.C w1 A0 x.length x := by
  have e : rd_L13 xs (k : Int) = xs[k] := by simp [rd_L13, List.getD, hk]
  have g := at_L13 (Kd.C_below h hb) (k : Int) (by omega) (by omega)
  rw [e] at g
  obtain ⟨ad, A0, c0, ea, g⟩ := g
  exact ⟨xs[k], ad, A0, c0, ea, by simp [hk], g⟩
theorem nt_Mi {w w1 : World} {A : Option Addr} {xs : List Mi} (h : Kd.C kMi w A xs.length xs) (hb : Below w.heap.size w w1) (k : Nat) (hk : k < xs.length) : ∃ x : Mi, ∃ ad , A = some ad ∧ xs[k]? = some x ∧ w1.cell? (ad.add (k * 6)) = some (.int .i64 x.kind) ∧ w1.cell? ⟨(ad.add (k * 6)).block, (ad.add (k * 6)).off + 1, none⟩ = some (.int .i64 x.op) ∧ w1.cell? ⟨(ad.add (k * 6)).block, (ad.add (k * 6)).off + 2, none⟩ = some (.int .i64 x.d) ∧ w1.cell? ⟨(ad.add (k * 6)).block, (ad.add (k * 6)).off + 3, none⟩ = some (.int .i64 x.a) ∧ w1.cell? ⟨(ad.add (k * 6)).block, (ad.add (k * 6)).off + 4, none⟩ = some (.int .i64 x.b) ∧ w1.cell? ⟨(ad.add (k * 6)).block, (ad.add (k * 6)).off + 5, none⟩ = some (.int .u32 x.n) := by
  have e : rd_Mi xs (k : Int) = xs[k] := by simp [rd_Mi, List.getD, hk]
  have g := at_Mi (Kd.C_below h hb) (k : Int) (by omega) (by omega)
  rw [e] at g
  obtain ⟨ad, ea, g⟩ := g
  exact ⟨xs[k], ad, ea, by simp [hk], g⟩
theorem nt_L15 {w w1 : World} {A : Option Addr} {xs : List (List Mi)} (h : Kd.C (Kd.slice 27 kMi) w A xs.length xs) (hb : Below w.heap.size w w1) (k : Nat) (hk : k < xs.length) : ∃ x : (List Mi), ∃ ad A0 c0, A = some ad ∧ xs[k]? = some x ∧ w1.cell? (ad.add k) = some (.slice A0 x.length c0) ∧ x.length ≤ c0 ∧ kMi.C w1 A0 x.length x := by
  have e : rd_L15 xs (k : Int) = xs[k] := by simp [rd_L15, List.getD, hk]
  have g := at_L15 (Kd.C_below h hb) (k : Int) (by omega) (by omega)
  rw [e] at g
  obtain ⟨ad, A0, c0, ea, g⟩ := g
  exact ⟨xs[k], ad, A0, c0, ea, by simp [hk], g⟩
theorem nt_Fix {w w1 : World} {A : Option Addr} {xs : List Fix} (h : Kd.C kFix w A xs.length xs) (hb : Below w.heap.size w w1) (k : Nat) (hk : k < xs.length) : ∃ x : Fix, ∃ ad , A = some ad ∧ xs[k]? = some x ∧ w1.cell? (ad.add (k * 3)) = some (.int .i64 x.pos) ∧ w1.cell? ⟨(ad.add (k * 3)).block, (ad.add (k * 3)).off + 1, none⟩ = some (.string x.name) ∧ w1.cell? ⟨(ad.add (k * 3)).block, (ad.add (k * 3)).off + 2, none⟩ = some (.int .i64 x.param) := by
  have e : rd_Fix xs (k : Int) = xs[k] := by simp [rd_Fix, List.getD, hk]
  have g := at_Fix (Kd.C_below h hb) (k : Int) (by omega) (by omega)
  rw [e] at g
  obtain ⟨ad, ea, g⟩ := g
  exact ⟨xs[k], ad, ea, by simp [hk], g⟩
theorem nt_L17 {w w1 : World} {A : Option Addr} {xs : List (List Fix)} (h : Kd.C (Kd.slice 86 kFix) w A xs.length xs) (hb : Below w.heap.size w w1) (k : Nat) (hk : k < xs.length) : ∃ x : (List Fix), ∃ ad A0 c0, A = some ad ∧ xs[k]? = some x ∧ w1.cell? (ad.add k) = some (.slice A0 x.length c0) ∧ x.length ≤ c0 ∧ kFix.C w1 A0 x.length x := by
  have e : rd_L17 xs (k : Int) = xs[k] := by simp [rd_L17, List.getD, hk]
  have g := at_L17 (Kd.C_below h hb) (k : Int) (by omega) (by omega)
  rw [e] at g
  obtain ⟨ad, A0, c0, ea, g⟩ := g
  exact ⟨xs[k], ad, A0, c0, ea, by simp [hk], g⟩
theorem nt_Objt {w w1 : World} {A : Option Addr} {xs : List Objt} (h : Kd.C kObjt w A xs.length xs) (hb : Below w.heap.size w w1) (k : Nat) (hk : k < xs.length) : ∃ x : Objt, ∃ ad A1 c1 A3 c3 A4 c4, A = some ad ∧ xs[k]? = some x ∧ w1.cell? (ad.add (k * 5)) = some (.string x.name) ∧ w1.cell? ⟨(ad.add (k * 5)).block, (ad.add (k * 5)).off + 1, none⟩ = some (.slice A1 x.params.length c1) ∧ w1.cell? ⟨(ad.add (k * 5)).block, (ad.add (k * 5)).off + 2, none⟩ = some (.int .i64 x.cells) ∧ w1.cell? ⟨(ad.add (k * 5)).block, (ad.add (k * 5)).off + 3, none⟩ = some (.slice A3 x.code.length c3) ∧ w1.cell? ⟨(ad.add (k * 5)).block, (ad.add (k * 5)).off + 4, none⟩ = some (.slice A4 x.fixes.length c4) ∧ x.params.length ≤ c1 ∧ kTy.C w1 A1 x.params.length x.params ∧ x.code.length ≤ c3 ∧ kMi.C w1 A3 x.code.length x.code ∧ x.fixes.length ≤ c4 ∧ kFix.C w1 A4 x.fixes.length x.fixes := by
  have e : rd_Objt xs (k : Int) = xs[k] := by simp [rd_Objt, List.getD, hk]
  have g := at_Objt (Kd.C_below h hb) (k : Int) (by omega) (by omega)
  rw [e] at g
  obtain ⟨ad, A1, c1, A3, c3, A4, c4, ea, g⟩ := g
  exact ⟨xs[k], ad, A1, c1, A3, c3, A4, c4, ea, by simp [hk], g⟩
theorem nt_L19 {w w1 : World} {A : Option Addr} {xs : List (List Objt)} (h : Kd.C (Kd.slice 55 kObjt) w A xs.length xs) (hb : Below w.heap.size w w1) (k : Nat) (hk : k < xs.length) : ∃ x : (List Objt), ∃ ad A0 c0, A = some ad ∧ xs[k]? = some x ∧ w1.cell? (ad.add k) = some (.slice A0 x.length c0) ∧ x.length ≤ c0 ∧ kObjt.C w1 A0 x.length x := by
  have e : rd_L19 xs (k : Int) = xs[k] := by simp [rd_L19, List.getD, hk]
  have g := at_L19 (Kd.C_below h hb) (k : Int) (by omega) (by omega)
  rw [e] at g
  obtain ⟨ad, A0, c0, ea, g⟩ := g
  exact ⟨xs[k], ad, A0, c0, ea, by simp [hk], g⟩
theorem nt_Entry {w w1 : World} {A : Option Addr} {xs : List Entry} (h : Kd.C kEntry w A xs.length xs) (hb : Below w.heap.size w w1) (k : Nat) (hk : k < xs.length) : ∃ x : Entry, ∃ ad A1 c1, A = some ad ∧ xs[k]? = some x ∧ w1.cell? (ad.add (k * 5)) = some (.string x.name) ∧ w1.cell? ⟨(ad.add (k * 5)).block, (ad.add (k * 5)).off + 1, none⟩ = some (.slice A1 x.params.length c1) ∧ w1.cell? ⟨(ad.add (k * 5)).block, (ad.add (k * 5)).off + 2, none⟩ = some (.int .i64 x.pos) ∧ w1.cell? ⟨(ad.add (k * 5)).block, (ad.add (k * 5)).off + 3, none⟩ = some (.int .i64 x.base) ∧ w1.cell? ⟨(ad.add (k * 5)).block, (ad.add (k * 5)).off + 4, none⟩ = some (.int .i64 x.cells) ∧ x.params.length ≤ c1 ∧ kTy.C w1 A1 x.params.length x.params := by
  have e : rd_Entry xs (k : Int) = xs[k] := by simp [rd_Entry, List.getD, hk]
  have g := at_Entry (Kd.C_below h hb) (k : Int) (by omega) (by omega)
  rw [e] at g
  obtain ⟨ad, A1, c1, ea, g⟩ := g
  exact ⟨xs[k], ad, A1, c1, ea, by simp [hk], g⟩
theorem nt_L21 {w w1 : World} {A : Option Addr} {xs : List (List Entry)} (h : Kd.C (Kd.slice 36 kEntry) w A xs.length xs) (hb : Below w.heap.size w w1) (k : Nat) (hk : k < xs.length) : ∃ x : (List Entry), ∃ ad A0 c0, A = some ad ∧ xs[k]? = some x ∧ w1.cell? (ad.add k) = some (.slice A0 x.length c0) ∧ x.length ≤ c0 ∧ kEntry.C w1 A0 x.length x := by
  have e : rd_L21 xs (k : Int) = xs[k] := by simp [rd_L21, List.getD, hk]
  have g := at_L21 (Kd.C_below h hb) (k : Int) (by omega) (by omega)
  rw [e] at g
  obtain ⟨ad, A0, c0, ea, g⟩ := g
  exact ⟨xs[k], ad, A0, c0, ea, by simp [hk], g⟩
theorem nt_Image {w w1 : World} {A : Option Addr} {xs : List Image} (h : Kd.C kImage w A xs.length xs) (hb : Below w.heap.size w w1) (k : Nat) (hk : k < xs.length) : ∃ x : Image, ∃ ad A0 c0 A1 c1, A = some ad ∧ xs[k]? = some x ∧ w1.cell? (ad.add (k * 3)) = some (.slice A0 x.entries.length c0) ∧ w1.cell? ⟨(ad.add (k * 3)).block, (ad.add (k * 3)).off + 1, none⟩ = some (.slice A1 x.code.length c1) ∧ w1.cell? ⟨(ad.add (k * 3)).block, (ad.add (k * 3)).off + 2, none⟩ = some (.int .i64 x.mem) ∧ x.entries.length ≤ c0 ∧ kEntry.C w1 A0 x.entries.length x.entries ∧ x.code.length ≤ c1 ∧ kMi.C w1 A1 x.code.length x.code := by
  have e : rd_Image xs (k : Int) = xs[k] := by simp [rd_Image, List.getD, hk]
  have g := at_Image (Kd.C_below h hb) (k : Int) (by omega) (by omega)
  rw [e] at g
  obtain ⟨ad, A0, c0, A1, c1, ea, g⟩ := g
  exact ⟨xs[k], ad, A0, c0, A1, c1, ea, by simp [hk], g⟩
theorem nt_Leak {w w1 : World} {A : Option Addr} {xs : List Leak} (h : Kd.C kLeak w A xs.length xs) (hb : Below w.heap.size w w1) (k : Nat) (hk : k < xs.length) : ∃ x : Leak, ∃ ad , A = some ad ∧ xs[k]? = some x ∧ w1.cell? (ad.add (k * 2)) = some (.int .i64 x.pos) ∧ w1.cell? ⟨(ad.add (k * 2)).block, (ad.add (k * 2)).off + 1, none⟩ = some (.int .i64 x.cell) := by
  have e : rd_Leak xs (k : Int) = xs[k] := by simp [rd_Leak, List.getD, hk]
  have g := at_Leak (Kd.C_below h hb) (k : Int) (by omega) (by omega)
  rw [e] at g
  obtain ⟨ad, ea, g⟩ := g
  exact ⟨xs[k], ad, ea, by simp [hk], g⟩
theorem nt_L24 {w w1 : World} {A : Option Addr} {xs : List (List Leak)} (h : Kd.C (Kd.slice 48 kLeak) w A xs.length xs) (hb : Below w.heap.size w w1) (k : Nat) (hk : k < xs.length) : ∃ x : (List Leak), ∃ ad A0 c0, A = some ad ∧ xs[k]? = some x ∧ w1.cell? (ad.add k) = some (.slice A0 x.length c0) ∧ x.length ≤ c0 ∧ kLeak.C w1 A0 x.length x := by
  have e : rd_L24 xs (k : Int) = xs[k] := by simp [rd_L24, List.getD, hk]
  have g := at_L24 (Kd.C_below h hb) (k : Int) (by omega) (by omega)
  rw [e] at g
  obtain ⟨ad, A0, c0, ea, g⟩ := g
  exact ⟨xs[k], ad, A0, c0, ea, by simp [hk], g⟩
end Go.Proofs.Ytddnbpgibfmolaa
