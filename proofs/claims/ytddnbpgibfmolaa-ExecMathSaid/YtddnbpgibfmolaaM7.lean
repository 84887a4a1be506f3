/- carlingref14.Same: are two rows of what is seen the same? '==' of two leaks. -/
import Derived.Test.YtddnbpgibfmolaaM1
import Derived.RegionTactic
namespace Go.Proofs.Ytddnbpgibfmolaa
open Go.RowKit Go.Proofs.YtddnbpgibfmolaaW.PrintWords
set_option linter.unusedVariables false

instance : DecidableEq Leak := fun a b => decidable_of_iff (a.pos = b.pos ∧ a.cell = b.cell) (by cases a; cases b; simp)
theorem lk_eqB (a b c e : Int) : ((a == c && b == e) = true) ↔ ((⟨a, b⟩ : Leak) = ⟨c, e⟩) := by
  rw [Bool.and_eq_true, beq_iff_eq, beq_iff_eq]
  constructor
  · rintro ⟨rfl, rfl⟩; rfl
  · intro h; injection h with h1 h2; exact ⟨h1, h2⟩
theorem eqLk (a b c e : Int) (w : World) : (Op.equalIn 10000 48 (.agg #[.int .i64 a, .int .i64 b]) (.agg #[.int .i64 c, .int .i64 e])).run Try.prog w = .ok (a == c && b == e) w := by
  have hI : ∀ x y : Int, (Op.equalIn 9999 3 (.int .i64 x) (.int .i64 y)).run Try.prog w = .ok (x == y) w := fun x y => run_equalIn_int (P := Try.prog) w 9998 3 .i64 .i64 x y Try.underlying3
  refine eqA_of Try.underlying48 (by kernel_rfl) ?_
  refine eqf_cons rfl (partInt _ 0 _ w rfl) (partInt _ 0 _ w rfl) (hI a c) ?_
  exact eqf_last rfl (partInt _ 1 _ w rfl) (partInt _ 1 _ w rfl) (hI b e)

set_option maxHeartbeats 4000000 in
set_option maxRecDepth 100000 in
theorem lsame_any (xs ys : List Leak) (A B : Option Addr) (c d : Nat) (w : World) (hx : Kd.C kLeak w A xs.length xs) (hy : Kd.C kLeak w B ys.length ys) :
    Calls Try.prog 19 #[.slice A xs.length c, .slice B ys.length d] w fun e w' => e = .returned (.bool (decide (xs = ys))) ∧ Below w.heap.size w w' := by
  have hlx := hx.2.1
  have hu := Try.underlying48
  have HX := Aside0.mk hx
  have HY := Aside0.mk hy
  clear hx hy
  by_cases hn : xs.length = ys.length
  · have hnb : (xs.length != ys.length) = false := by simp [hn]
    rw [← hn] at HY ⊢
    have HN := Aside0.mk hn
    clear hn
    go_enter Try.func19, Try.ntmps19
    go_wp2
    go_loopw [5] (fun v11 wr => ∃ k : Nat, k ≤ xs.length ∧ v11 = .int .i64 k ∧ Aside0 (xs.take k = ys.take k) ∧ Aside0 (Below w.heap.size w wr)) (fun v11 _ => xs.length - (intOf v11).toNat)
    case atStart => exact ⟨0, Nat.zero_le _, rfl, ⟨rfl⟩, ⟨Below.refl _ _⟩⟩
    case round =>
      obtain ⟨k, hk, rfl, HE, HB⟩ := hrel
      by_cases hlt : k < xs.length
      · obtain ⟨x, ad, rfl, hx, h0, h1⟩ := nt_Leak HX.out HB.out k hlt
        obtain ⟨y, bd, rfl, hy, g0, g1⟩ := nt_Leak (HN.out ▸ HY.out) HB.out k (by rw [← HN.out]; exact hlt)
        obtain ⟨a, b⟩ := x
        obtain ⟨e, f⟩ := y
        simp only at h0 h1 g0 g1
        have q := fun W => eqLk a b e f W
        by_cases he : (a == e && b == f) = true
        · have HT := Aside0.mk (show xs.take (k + 1) = ys.take (k + 1) by rw [take_snoc_at hx, take_snoc_at hy, HE.out, (lk_eqB a b e f).1 he])
          clear hx hy
          rw [he] at q
          clear he
          go_wp2
          go_region
          go_wp2
          go_roundw
          case rel => exact ⟨k + 1, by omega, by go_num, HT, ⟨below_drew1 HB.out⟩⟩
          case measure => simp [intOf]; omega
        · have HF := Aside0.mk (show decide (xs = ys) = false from decide_eq_false (fun h => he ((lk_eqB a b e f).2 (by rw [h, hy] at hx; exact (Option.some.inj hx).symm))))
          clear hx hy
          rw [Bool.not_eq_true] at he
          rw [he] at q
          clear he
          go_wp2
          go_region
          go_wp2
          go_ret
          exact ⟨ret_bool HF.out.symm, below_drew1 HB.out⟩
      · obtain rfl : xs.length = k := by omega
        have HF := Aside0.mk (show decide (xs = ys) = true from decide_eq_true (by have := HE.out; rwa [List.take_length, HN.out, List.take_length] at this))
        go_wp2
        go_ret
        exact ⟨ret_bool HF.out.symm, HB.out⟩
  · have hnb : (xs.length != ys.length) = true := by simp [hn]
    have HF := Aside0.mk (show decide (xs = ys) = false from decide_eq_false (fun h => hn (by rw [h])))
    go_enter Try.func19, Try.ntmps19
    go_wp2
    go_ret
    exact ⟨ret_bool HF.out.symm, Below.refl _ _⟩
end Go.Proofs.Ytddnbpgibfmolaa
