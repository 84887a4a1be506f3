/- irun.sizes. -/
import Derived.Test.YtddnbpgibfmolaaK
namespace Go.Proofs.Ytddnbpgibfmolaa
open Go.RowKit Go.Proofs.YtddnbpgibfmolaaW.PrintWords
set_option linter.unusedVariables false

def wordsN (p : List Ty) : Nat := p.countP (fun t => t.len == 0)
def cellsN (p : List Ty) : Int := (p.map (·.len)).sum
/-- All lengths are small. -/
def LensOk (p : List Ty) : Prop := p.length ≤ 20 ∧ ∀ t ∈ p, 0 ≤ t.len ∧ t.len ≤ 16

theorem take_snoc_at {α : Type} {xs : List α} {k : Nat} {x : α} (h : xs[k]? = some x) : xs.take (k + 1) = xs.take k ++ [x] := by
  obtain ⟨hk, rfl⟩ := List.getElem?_eq_some_iff.1 h
  exact List.take_succ_eq_append_getElem hk
theorem at_mem {α : Type} {xs : List α} {k : Nat} {x : α} (h : xs[k]? = some x) : x ∈ xs := List.mem_of_getElem? h
theorem wordsN_succ {p : List Ty} {k : Nat} {t : Ty} (h : p[k]? = some t) : wordsN (p.take (k + 1)) = wordsN (p.take k) + if t.len = 0 then 1 else 0 := by
  rw [take_snoc_at h]
  simp [wordsN, List.countP_append, List.countP_cons]
theorem cellsN_succ {p : List Ty} {k : Nat} {t : Ty} (h : p[k]? = some t) : cellsN (p.take (k + 1)) = cellsN (p.take k) + t.len := by
  rw [take_snoc_at h]
  simp [cellsN]
theorem wordsN_le (p : List Ty) : wordsN p ≤ p.length := List.countP_le_length
theorem cellsN_bd (p : List Ty) (h : ∀ t ∈ p, 0 ≤ t.len ∧ t.len ≤ 16) : 0 ≤ cellsN p ∧ cellsN p ≤ 16 * p.length := by
  induction p with
  | nil => simp [cellsN]
  | cons a l ih =>
    have := ih (fun t ht => h t (List.mem_cons_of_mem _ ht))
    have h2 := h a List.mem_cons_self
    simp [cellsN] at *
    omega

theorem ret_int2 {k : IntKind} {a b c d : Int} (h : a = b) (h' : c = d) : Ending.returned (.tuple #[.int k a, .int k c]) = .returned (.tuple #[.int k b, .int k d]) := by rw [h, h']

set_option maxHeartbeats 1000000 in
theorem sizes_any (p : List Ty) (A : Option Addr) (c : Nat) (w : World) (hp : LensOk p) (hr : Kd.C kTy w A p.length p) :
    Calls Try.prog 34 #[.slice A p.length c] w fun e w' => e = .returned (.tuple #[.int .i64 (wordsN p), .int .i64 (cellsN p)]) ∧ Below w.heap.size w w' := by
  have HR := Aside0.mk hr
  have HP := Aside0.mk hp
  have hl := hp.1
  clear hr hp
  have hu := Try.underlying33
  go_enter Try.func34, Try.ntmps34
  go_wp2
  go_loopw [4, 5, 10] (fun v4 v5 v10 wr => ∃ k : Nat, k ≤ p.length ∧ v10 = .int .i64 k ∧ v4 = .int .i64 (wordsN (p.take k) : Nat) ∧ v5 = .int .i64 (cellsN (p.take k)) ∧ Aside0 (Below w.heap.size w wr)) (fun _ _ v10 _ => p.length - (intOf v10).toNat)
  case atStart => exact ⟨0, Nat.zero_le _, rfl, rfl, rfl, ⟨Below.refl _ _⟩⟩
  case round =>
    obtain ⟨k, hk, rfl, rfl, rfl, HB⟩ := hrel
    have hw := wordsN_le (p.take k)
    have hw2 : (p.take k).length ≤ k := List.length_take_le _ _
    have hc := cellsN_bd (p.take k) (fun t ht => HP.out.2 t (List.mem_of_mem_take ht))
    by_cases hlt : k < p.length
    · obtain ⟨t, ad, rfl, ht, h0, h1⟩ := nt_Ty HR.out HB.out k hlt
      have hrng := HP.out.2 _ (at_mem ht)
      have HW := Aside0.mk (wordsN_succ ht)
      have HCe := Aside0.mk (cellsN_succ ht)
      obtain ⟨s, len⟩ := t
      simp only at h0 h1 hrng HW HCe
      clear ht
      by_cases hz : len = 0
      · have hzb : (len == 0) = true := by simp [hz]
        have HZ := Aside0.mk hz
        clear hz
        go_wp2
        go_roundw
        case rel => exact ⟨k + 1, by omega, by go_num, by rw [HW.out, if_pos HZ.out]; go_num, by rw [HCe.out], ⟨below_alloc HB.out _⟩⟩
        case measure => simp [intOf]; omega
      · have hzb : (len == 0) = false := by simp [hz]
        go_wp2
        go_roundw
        case rel => exact ⟨k + 1, by omega, by go_num, by rw [HW.out, if_neg hz]; go_num, by rw [HCe.out], ⟨below_alloc HB.out _⟩⟩
        case measure => simp [intOf]; omega
    · go_wp2
      go_ret2
      exact ⟨ret_int2 (by rw [List.take_of_length_le (by omega)]) (by rw [List.take_of_length_le (by omega)]), HB.out⟩
end Go.Proofs.Ytddnbpgibfmolaa
