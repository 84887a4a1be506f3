/- carlingref11.Same. -/
import Derived.Test.YtlkkdpmloeipjaaA14
import Derived.RegionTactic
namespace Go.Proofs.Ytlkkdpmloeipjaa
open Go.RowKit Go.Proofs.YtlkkdpmloeipjaaW.PrintWords
set_option linter.unusedVariables false

instance : DecidableEq Sp := fun a b => decidable_of_iff (a.lo = b.lo ∧ a.hi = b.hi) (by cases a; cases b; simp)
theorem sp_eqB (a b c e : Int) : ((a == c && b == e) = true) ↔ ((⟨a, b⟩ : Sp) = ⟨c, e⟩) := by
  rw [Bool.and_eq_true, beq_iff_eq, beq_iff_eq]
  constructor
  · rintro ⟨rfl, rfl⟩; rfl
  · intro h; injection h with h1 h2; exact ⟨h1, h2⟩

set_option maxHeartbeats 4000000 in
theorem same_any (xs ys : List Sp) (A B : Option Addr) (c d : Nat) (w : World) (hx : Kd.C kSp w A xs.length xs) (hy : Kd.C kSp w B ys.length ys) :
    Calls Try.prog 24 #[.slice A xs.length c, .slice B ys.length d] w fun e w' => e = .returned (.bool (decide (xs = ys))) ∧ Below w.heap.size w w' := by
  have hlx := hx.2.1
  have HX := Aside0.mk hx
  have HY := Aside0.mk hy
  clear hx hy
  by_cases hn : xs.length = ys.length
  · have hnb : (xs.length != ys.length) = false := by simp [hn]
    rw [← hn] at HY ⊢
    have HN := Aside0.mk hn
    clear hn
    go_enter Try.func24, Try.ntmps24
    go_wp2
    go_loopw [5] (fun v11 wr => ∃ k : Nat, k ≤ xs.length ∧ v11 = .int .i64 k ∧ Aside0 (xs.take k = ys.take k) ∧ Aside0 (Below w.heap.size w wr)) (fun v11 _ => xs.length - (intOf v11).toNat)
    case atStart => exact ⟨0, Nat.zero_le _, rfl, ⟨rfl⟩, ⟨Below.refl _ _⟩⟩
    case round =>
      obtain ⟨k, hk, rfl, HE, HB⟩ := hrel
      by_cases hlt : k < xs.length
      · obtain ⟨x, ad, rfl, hx, h0, h1⟩ := nt_Sp HX.out HB.out k hlt
        obtain ⟨y, bd, rfl, hy, g0, g1⟩ := nt_Sp (HN.out ▸ HY.out) HB.out k (by rw [← HN.out]; exact hlt)
        obtain ⟨a, b⟩ := x
        obtain ⟨e, f⟩ := y
        simp only at h0 h1 g0 g1
        have q := fun W => eqSp a b e f W
        by_cases he : (a == e && b == f) = true
        · have HT := Aside0.mk (show xs.take (k + 1) = ys.take (k + 1) by rw [take_snoc_at hx, take_snoc_at hy, HE.out, (sp_eqB a b e f).1 he])
          clear hx hy
          rw [he] at q
          clear he
          go_wp2
          go_region
          go_wp2
          go_roundw
          case rel => exact ⟨k + 1, by omega, by go_num, HT, ⟨below_drew1 HB.out⟩⟩
          case measure => simp [intOf]; omega
        · have HF := Aside0.mk (show decide (xs = ys) = false from decide_eq_false (fun h => he ((sp_eqB a b e f).2 (by rw [h, hy] at hx; exact (Option.some.inj hx).symm))))
          clear hx hy
          rw [Bool.not_eq_true] at he
          rw [he] at q
          clear he
          go_wp2
          go_region
          go_wp2
          go_ret
          exact ⟨ret_bool HF.out.symm, below_drew1 HB.out⟩
      · obtain rfl : xs.length = k := by omega
        have HF := Aside0.mk (show decide (xs = ys) = true from decide_eq_true (by have := HE.out; rwa [List.take_length, HN.out, List.take_length] at this))
        go_wp2
        go_ret
        exact ⟨ret_bool HF.out.symm, HB.out⟩
  · have hnb : (xs.length != ys.length) = true := by simp [hn]
    have HF := Aside0.mk (show decide (xs = ys) = false from decide_eq_false (fun h => hn (by rw [h])))
    go_enter Try.func24, Try.ntmps24
    go_wp2
    go_ret
    exact ⟨ret_bool HF.out.symm, Below.refl _ _⟩
end Go.Proofs.Ytlkkdpmloeipjaa
