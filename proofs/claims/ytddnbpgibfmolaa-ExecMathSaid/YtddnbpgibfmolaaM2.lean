/- carlingref13.Right: the walk. -/
import Derived.Test.YtddnbpgibfmolaaM1
namespace Go.Proofs.Ytddnbpgibfmolaa
open Go.RowKit Go.Proofs.YtddnbpgibfmolaaW.PrintWords
set_option linter.unusedVariables false

set_option maxHeartbeats 4000000 in
theorem rm_d0 (k : Int) (o d a b n : Int) (w : World) (h : d < 0) :
    Calls Try.prog 65 #[miV ⟨k, o, d, a, b, n⟩] w fun e w' => e = .returned (.bool (miB ⟨k, o, d, a, b, n⟩)) ∧ Below w.heap.size w w' := by
  have hu := Try.underlying27
  have HF := Aside0.mk (show miB ⟨k, o, d, a, b, n⟩ = false by simp [miB]; omega)
  have q := fun k o d a b n k' o' d' a' b' n' W => eqMi k o d a b n k' o' d' a' b' n' W
  simp only [miV]
  go_enter Try.func65, Try.ntmps65
  go_wp2
  go_ret
  exact ⟨ret_bool (by rw [HF.out]), below_alloc (below_alloc (Below.refl _ _) _) _⟩

set_option maxHeartbeats 4000000 in
theorem rm_d7 (k : Int) (o d a b n : Int) (w : World) (h0 : ¬ d < 0) (h : 7 < d) :
    Calls Try.prog 65 #[miV ⟨k, o, d, a, b, n⟩] w fun e w' => e = .returned (.bool (miB ⟨k, o, d, a, b, n⟩)) ∧ Below w.heap.size w w' := by
  have hu := Try.underlying27
  have HF := Aside0.mk (show miB ⟨k, o, d, a, b, n⟩ = false by simp [miB]; omega)
  have q := fun k o d a b n k' o' d' a' b' n' W => eqMi k o d a b n k' o' d' a' b' n' W
  simp only [miV]
  go_enter Try.func65, Try.ntmps65
  go_wp2
  go_ret
  exact ⟨ret_bool (by rw [HF.out]), below_alloc (below_alloc (Below.refl _ _) _) _⟩

set_option maxHeartbeats 4000000 in
theorem rm_a0 (k : Int) (o d a b n : Int) (w : World) (h0 : ¬ d < 0) (h1 : ¬ 7 < d) (h : a < 0) :
    Calls Try.prog 65 #[miV ⟨k, o, d, a, b, n⟩] w fun e w' => e = .returned (.bool (miB ⟨k, o, d, a, b, n⟩)) ∧ Below w.heap.size w w' := by
  have hu := Try.underlying27
  have HF := Aside0.mk (show miB ⟨k, o, d, a, b, n⟩ = false by simp [miB]; omega)
  have q := fun k o d a b n k' o' d' a' b' n' W => eqMi k o d a b n k' o' d' a' b' n' W
  simp only [miV]
  go_enter Try.func65, Try.ntmps65
  go_wp2
  go_ret
  exact ⟨ret_bool (by rw [HF.out]), below_alloc (below_alloc (Below.refl _ _) _) _⟩

set_option maxHeartbeats 4000000 in
theorem rm_a7 (k : Int) (o d a b n : Int) (w : World) (h0 : ¬ d < 0) (h1 : ¬ 7 < d) (h2 : ¬ a < 0) (h : 7 < a) :
    Calls Try.prog 65 #[miV ⟨k, o, d, a, b, n⟩] w fun e w' => e = .returned (.bool (miB ⟨k, o, d, a, b, n⟩)) ∧ Below w.heap.size w w' := by
  have hu := Try.underlying27
  have HF := Aside0.mk (show miB ⟨k, o, d, a, b, n⟩ = false by simp [miB]; omega)
  have q := fun k o d a b n k' o' d' a' b' n' W => eqMi k o d a b n k' o' d' a' b' n' W
  simp only [miV]
  go_enter Try.func65, Try.ntmps65
  go_wp2
  go_ret
  exact ⟨ret_bool (by rw [HF.out]), below_alloc (below_alloc (Below.refl _ _) _) _⟩

set_option maxHeartbeats 4000000 in
theorem rm_b0 (k : Int) (o d a b n : Int) (w : World) (h0 : ¬ d < 0) (h1 : ¬ 7 < d) (h2 : ¬ a < 0) (h3 : ¬ 7 < a) (h : b < 0) :
    Calls Try.prog 65 #[miV ⟨k, o, d, a, b, n⟩] w fun e w' => e = .returned (.bool (miB ⟨k, o, d, a, b, n⟩)) ∧ Below w.heap.size w w' := by
  have hu := Try.underlying27
  have HF := Aside0.mk (show miB ⟨k, o, d, a, b, n⟩ = false by simp [miB]; omega)
  have q := fun k o d a b n k' o' d' a' b' n' W => eqMi k o d a b n k' o' d' a' b' n' W
  simp only [miV]
  go_enter Try.func65, Try.ntmps65
  go_wp2
  go_ret
  exact ⟨ret_bool (by rw [HF.out]), below_alloc (below_alloc (Below.refl _ _) _) _⟩

set_option maxHeartbeats 4000000 in
theorem rm_b7 (k : Int) (o d a b n : Int) (w : World) (h0 : ¬ d < 0) (h1 : ¬ 7 < d) (h2 : ¬ a < 0) (h3 : ¬ 7 < a) (h4 : ¬ b < 0) (h : 7 < b) :
    Calls Try.prog 65 #[miV ⟨k, o, d, a, b, n⟩] w fun e w' => e = .returned (.bool (miB ⟨k, o, d, a, b, n⟩)) ∧ Below w.heap.size w w' := by
  have hu := Try.underlying27
  have HF := Aside0.mk (show miB ⟨k, o, d, a, b, n⟩ = false by simp [miB]; omega)
  have q := fun k o d a b n k' o' d' a' b' n' W => eqMi k o d a b n k' o' d' a' b' n' W
  simp only [miV]
  go_enter Try.func65, Try.ntmps65
  go_wp2
  go_ret
  exact ⟨ret_bool (by rw [HF.out]), below_alloc (below_alloc (Below.refl _ _) _) _⟩

set_option maxHeartbeats 4000000 in
theorem rm_k1 (o d a b n : Int) (w : World) (h0 : ¬ d < 0) (h1 : ¬ 7 < d) (h2 : ¬ a < 0) (h3 : ¬ 7 < a) (h4 : ¬ b < 0) (h5 : ¬ 7 < b) :
    Calls Try.prog 65 #[miV ⟨(1), o, d, a, b, n⟩] w fun e w' => e = .returned (.bool (miB ⟨(1), o, d, a, b, n⟩)) ∧ Below w.heap.size w w' := by
  have hu := Try.underlying27
  have HF := Aside0.mk (show miB ⟨(1), o, d, a, b, n⟩ = (o == 0 && (a == 0 && b == 0)) by simp [miB]; (rw [Bool.eq_iff_iff]; simp; omega))
  have q := fun k o d a b n k' o' d' a' b' n' W => eqMi k o d a b n k' o' d' a' b' n' W
  simp only [miV]
  go_enter Try.func65, Try.ntmps65
  go_wp2
  go_ret
  exact ⟨ret_bool (by rw [HF.out]), below_alloc (below_alloc (Below.refl _ _) _) _⟩

set_option maxHeartbeats 4000000 in
theorem rm_k4 (o d a b n : Int) (w : World) (h0 : ¬ d < 0) (h1 : ¬ 7 < d) (h2 : ¬ a < 0) (h3 : ¬ 7 < a) (h4 : ¬ b < 0) (h5 : ¬ 7 < b) :
    Calls Try.prog 65 #[miV ⟨(4), o, d, a, b, n⟩] w fun e w' => e = .returned (.bool (miB ⟨(4), o, d, a, b, n⟩)) ∧ Below w.heap.size w w' := by
  have hu := Try.underlying27
  have HF := Aside0.mk (show miB ⟨(4), o, d, a, b, n⟩ = (o == 0 && (a == 0 && b == 0)) by simp [miB]; (rw [Bool.eq_iff_iff]; simp; omega))
  have q := fun k o d a b n k' o' d' a' b' n' W => eqMi k o d a b n k' o' d' a' b' n' W
  simp only [miV]
  go_enter Try.func65, Try.ntmps65
  go_wp2
  go_ret
  exact ⟨ret_bool (by rw [HF.out]), below_alloc (below_alloc (Below.refl _ _) _) _⟩

set_option maxHeartbeats 4000000 in
theorem rm_k2 (o d a b n : Int) (w : World) (h0 : ¬ d < 0) (h1 : ¬ 7 < d) (h2 : ¬ a < 0) (h3 : ¬ 7 < a) (h4 : ¬ b < 0) (h5 : ¬ 7 < b) :
    Calls Try.prog 65 #[miV ⟨(2), o, d, a, b, n⟩] w fun e w' => e = .returned (.bool (miB ⟨(2), o, d, a, b, n⟩)) ∧ Below w.heap.size w w' := by
  have hu := Try.underlying27
  have HF := Aside0.mk (show miB ⟨(2), o, d, a, b, n⟩ = (o == 0 && (b == 0 && n == 0)) by simp [miB]; (rw [Bool.eq_iff_iff]; simp; omega))
  have q := fun k o d a b n k' o' d' a' b' n' W => eqMi k o d a b n k' o' d' a' b' n' W
  simp only [miV]
  go_enter Try.func65, Try.ntmps65
  go_wp2
  go_ret
  exact ⟨ret_bool (by rw [HF.out]), below_alloc (below_alloc (Below.refl _ _) _) _⟩

set_option maxHeartbeats 4000000 in
theorem rm_k3a (o d a b n : Int) (w : World) (h0 : ¬ d < 0) (h1 : ¬ 7 < d) (h2 : ¬ a < 0) (h3 : ¬ 7 < a) (h4 : ¬ b < 0) (h5 : ¬ 7 < b) (h6 : o < 1) :
    Calls Try.prog 65 #[miV ⟨(3), o, d, a, b, n⟩] w fun e w' => e = .returned (.bool (miB ⟨(3), o, d, a, b, n⟩)) ∧ Below w.heap.size w w' := by
  have hu := Try.underlying27
  have HF := Aside0.mk (show miB ⟨(3), o, d, a, b, n⟩ = false by simp [miB]; omega)
  have q := fun k o d a b n k' o' d' a' b' n' W => eqMi k o d a b n k' o' d' a' b' n' W
  simp only [miV]
  go_enter Try.func65, Try.ntmps65
  go_wp2
  go_ret
  exact ⟨ret_bool (by rw [HF.out]), below_alloc (below_alloc (Below.refl _ _) _) _⟩

set_option maxHeartbeats 4000000 in
theorem rm_k3b (o d a b n : Int) (w : World) (h0 : ¬ d < 0) (h1 : ¬ 7 < d) (h2 : ¬ a < 0) (h3 : ¬ 7 < a) (h4 : ¬ b < 0) (h5 : ¬ 7 < b) (h6 : ¬ o < 1) (h7 : 10 < o) :
    Calls Try.prog 65 #[miV ⟨(3), o, d, a, b, n⟩] w fun e w' => e = .returned (.bool (miB ⟨(3), o, d, a, b, n⟩)) ∧ Below w.heap.size w w' := by
  have hu := Try.underlying27
  have HF := Aside0.mk (show miB ⟨(3), o, d, a, b, n⟩ = false by simp [miB]; omega)
  have q := fun k o d a b n k' o' d' a' b' n' W => eqMi k o d a b n k' o' d' a' b' n' W
  simp only [miV]
  go_enter Try.func65, Try.ntmps65
  go_wp2
  go_ret
  exact ⟨ret_bool (by rw [HF.out]), below_alloc (below_alloc (Below.refl _ _) _) _⟩

set_option maxHeartbeats 4000000 in
theorem rm_k3 (o d a b n : Int) (w : World) (h0 : ¬ d < 0) (h1 : ¬ 7 < d) (h2 : ¬ a < 0) (h3 : ¬ 7 < a) (h4 : ¬ b < 0) (h5 : ¬ 7 < b) (h6 : ¬ o < 1) (h7 : ¬ 10 < o) :
    Calls Try.prog 65 #[miV ⟨(3), o, d, a, b, n⟩] w fun e w' => e = .returned (.bool (miB ⟨(3), o, d, a, b, n⟩)) ∧ Below w.heap.size w w' := by
  have hu := Try.underlying27
  have HF := Aside0.mk (show miB ⟨(3), o, d, a, b, n⟩ = (n == 0) by simp [miB]; (rw [Bool.eq_iff_iff]; simp; omega))
  have q := fun k o d a b n k' o' d' a' b' n' W => eqMi k o d a b n k' o' d' a' b' n' W
  simp only [miV]
  go_enter Try.func65, Try.ntmps65
  go_wp2
  go_ret
  exact ⟨ret_bool (by rw [HF.out]), below_alloc (below_alloc (Below.refl _ _) _) _⟩

set_option maxHeartbeats 4000000 in
theorem rm_k5 (o d a b n : Int) (w : World) (h0 : ¬ d < 0) (h1 : ¬ 7 < d) (h2 : ¬ a < 0) (h3 : ¬ 7 < a) (h4 : ¬ b < 0) (h5 : ¬ 7 < b) :
    Calls Try.prog 65 #[miV ⟨(5), o, d, a, b, n⟩] w fun e w' => e = .returned (.bool (miB ⟨(5), o, d, a, b, n⟩)) ∧ Below w.heap.size w w' := by
  have hu := Try.underlying27
  have HF := Aside0.mk (show miB ⟨(5), o, d, a, b, n⟩ = (o == 0 && (d == 0 && b == 0)) by simp [miB]; (rw [Bool.eq_iff_iff]; simp; omega))
  have q := fun k o d a b n k' o' d' a' b' n' W => eqMi k o d a b n k' o' d' a' b' n' W
  simp only [miV]
  go_enter Try.func65, Try.ntmps65
  go_wp2
  go_ret
  exact ⟨ret_bool (by rw [HF.out]), below_alloc (below_alloc (Below.refl _ _) _) _⟩

set_option maxHeartbeats 4000000 in
theorem rm_k7 (o d a b n : Int) (w : World) (h0 : ¬ d < 0) (h1 : ¬ 7 < d) (h2 : ¬ a < 0) (h3 : ¬ 7 < a) (h4 : ¬ b < 0) (h5 : ¬ 7 < b) :
    Calls Try.prog 65 #[miV ⟨(7), o, d, a, b, n⟩] w fun e w' => e = .returned (.bool (miB ⟨(7), o, d, a, b, n⟩)) ∧ Below w.heap.size w w' := by
  have hu := Try.underlying27
  have HF := Aside0.mk (show miB ⟨(7), o, d, a, b, n⟩ = (o == 0 && (d == 0 && b == 0)) by simp [miB]; (rw [Bool.eq_iff_iff]; simp; omega))
  have q := fun k o d a b n k' o' d' a' b' n' W => eqMi k o d a b n k' o' d' a' b' n' W
  simp only [miV]
  go_enter Try.func65, Try.ntmps65
  go_wp2
  go_ret
  exact ⟨ret_bool (by rw [HF.out]), below_alloc (below_alloc (Below.refl _ _) _) _⟩

set_option maxHeartbeats 4000000 in
theorem rm_k6 (o d a b n : Int) (w : World) (h0 : ¬ d < 0) (h1 : ¬ 7 < d) (h2 : ¬ a < 0) (h3 : ¬ 7 < a) (h4 : ¬ b < 0) (h5 : ¬ 7 < b) :
    Calls Try.prog 65 #[miV ⟨(6), o, d, a, b, n⟩] w fun e w' => e = .returned (.bool (miB ⟨(6), o, d, a, b, n⟩)) ∧ Below w.heap.size w w' := by
  have hu := Try.underlying27
  have HF := Aside0.mk (show miB ⟨(6), o, d, a, b, n⟩ = (o == 0 && (d == 0 && (a == 0 && b == 0))) by simp [miB]; (rw [Bool.eq_iff_iff]; simp; omega))
  have q := fun k o d a b n k' o' d' a' b' n' W => eqMi k o d a b n k' o' d' a' b' n' W
  simp only [miV]
  go_enter Try.func65, Try.ntmps65
  go_wp2
  go_ret
  exact ⟨ret_bool (by rw [HF.out]), below_alloc (below_alloc (Below.refl _ _) _) _⟩

set_option maxHeartbeats 4000000 in
theorem rm_k8 (o d a b n : Int) (w : World) (h0 : ¬ d < 0) (h1 : ¬ 7 < d) (h2 : ¬ a < 0) (h3 : ¬ 7 < a) (h4 : ¬ b < 0) (h5 : ¬ 7 < b) :
    Calls Try.prog 65 #[miV ⟨(8), o, d, a, b, n⟩] w fun e w' => e = .returned (.bool (miB ⟨(8), o, d, a, b, n⟩)) ∧ Below w.heap.size w w' := by
  have hu := Try.underlying27
  have HF := Aside0.mk (show miB ⟨(8), o, d, a, b, n⟩ = (o == 0 && (d == 0 && (a == 0 && b == 0))) by simp [miB]; (rw [Bool.eq_iff_iff]; simp; omega))
  have q := fun k o d a b n k' o' d' a' b' n' W => eqMi k o d a b n k' o' d' a' b' n' W
  simp only [miV]
  go_enter Try.func65, Try.ntmps65
  go_wp2
  go_ret
  exact ⟨ret_bool (by rw [HF.out]), below_alloc (below_alloc (Below.refl _ _) _) _⟩

set_option maxHeartbeats 4000000 in
theorem rm_k9 (o d a b n : Int) (w : World) (h0 : ¬ d < 0) (h1 : ¬ 7 < d) (h2 : ¬ a < 0) (h3 : ¬ 7 < a) (h4 : ¬ b < 0) (h5 : ¬ 7 < b) :
    Calls Try.prog 65 #[miV ⟨(9), o, d, a, b, n⟩] w fun e w' => e = .returned (.bool (miB ⟨(9), o, d, a, b, n⟩)) ∧ Below w.heap.size w w' := by
  have hu := Try.underlying27
  have HF := Aside0.mk (show miB ⟨(9), o, d, a, b, n⟩ = (o == 0 && (d == 0 && (a == 0 && (b == 0 && n == 0)))) by simp [miB]; (rw [Bool.eq_iff_iff]; simp; omega))
  have q := fun k o d a b n k' o' d' a' b' n' W => eqMi k o d a b n k' o' d' a' b' n' W
  simp only [miV]
  go_enter Try.func65, Try.ntmps65
  go_wp2
  go_ret
  exact ⟨ret_bool (by rw [HF.out]), below_alloc (below_alloc (Below.refl _ _) _) _⟩

set_option maxHeartbeats 4000000 in
theorem rm_no (k : Int) (o d a b n : Int) (w : World) (h0 : ¬ d < 0) (h1 : ¬ 7 < d) (h2 : ¬ a < 0) (h3 : ¬ 7 < a) (h4 : ¬ b < 0) (h5 : ¬ 7 < b) (k1 : ¬ k = 1) (e1 : (k == 1) = false) (k2 : ¬ k = 2) (e2 : (k == 2) = false) (k3 : ¬ k = 3) (e3 : (k == 3) = false) (k4 : ¬ k = 4) (e4 : (k == 4) = false) (k5 : ¬ k = 5) (e5 : (k == 5) = false) (k6 : ¬ k = 6) (e6 : (k == 6) = false) (k7 : ¬ k = 7) (e7 : (k == 7) = false) (k8 : ¬ k = 8) (e8 : (k == 8) = false) (k9 : ¬ k = 9) (e9 : (k == 9) = false) :
    Calls Try.prog 65 #[miV ⟨k, o, d, a, b, n⟩] w fun e w' => e = .returned (.bool (miB ⟨k, o, d, a, b, n⟩)) ∧ Below w.heap.size w w' := by
  have hu := Try.underlying27
  have HF := Aside0.mk (show miB ⟨k, o, d, a, b, n⟩ = false by simp [miB]; intros; simp [*])
  have q := fun k o d a b n k' o' d' a' b' n' W => eqMi k o d a b n k' o' d' a' b' n' W
  simp only [miV]
  go_enter Try.func65, Try.ntmps65
  go_wp2
  go_ret
  exact ⟨ret_bool (by rw [HF.out]), below_alloc (below_alloc (Below.refl _ _) _) _⟩

theorem rmright_any (x : Mi) (w : World) : Calls Try.prog 65 #[miV x] w fun e w' => e = .returned (.bool (miB x)) ∧ Below w.heap.size w w' := by
  obtain ⟨k, o, d, a, b, n⟩ := x
  by_cases h0 : d < 0
  · exact rm_d0 k o d a b n w h0
  by_cases h1 : 7 < d
  · exact rm_d7 k o d a b n w h0 h1
  by_cases h2 : a < 0
  · exact rm_a0 k o d a b n w h0 h1 h2
  by_cases h3 : 7 < a
  · exact rm_a7 k o d a b n w h0 h1 h2 h3
  by_cases h4 : b < 0
  · exact rm_b0 k o d a b n w h0 h1 h2 h3 h4
  by_cases h5 : 7 < b
  · exact rm_b7 k o d a b n w h0 h1 h2 h3 h4 h5
  by_cases k1 : k = 1
  · subst k1; exact rm_k1 o d a b n w h0 h1 h2 h3 h4 h5
  by_cases k2 : k = 2
  · subst k2; exact rm_k2 o d a b n w h0 h1 h2 h3 h4 h5
  by_cases k4 : k = 4
  · subst k4; exact rm_k4 o d a b n w h0 h1 h2 h3 h4 h5
  by_cases k5 : k = 5
  · subst k5; exact rm_k5 o d a b n w h0 h1 h2 h3 h4 h5
  by_cases k6 : k = 6
  · subst k6; exact rm_k6 o d a b n w h0 h1 h2 h3 h4 h5
  by_cases k7 : k = 7
  · subst k7; exact rm_k7 o d a b n w h0 h1 h2 h3 h4 h5
  by_cases k8 : k = 8
  · subst k8; exact rm_k8 o d a b n w h0 h1 h2 h3 h4 h5
  by_cases k9 : k = 9
  · subst k9; exact rm_k9 o d a b n w h0 h1 h2 h3 h4 h5
  by_cases k3 : k = 3
  · subst k3
    by_cases h6 : o < 1
    · exact rm_k3a o d a b n w h0 h1 h2 h3 h4 h5 h6
    by_cases h7 : 10 < o
    · exact rm_k3b o d a b n w h0 h1 h2 h3 h4 h5 h6 h7
    · exact rm_k3 o d a b n w h0 h1 h2 h3 h4 h5 h6 h7
  exact rm_no k o d a b n w h0 h1 h2 h3 h4 h5 k1 (beq_eq_false_iff_ne.2 k1) k2 (beq_eq_false_iff_ne.2 k2) k3 (beq_eq_false_iff_ne.2 k3) k4 (beq_eq_false_iff_ne.2 k4) k5 (beq_eq_false_iff_ne.2 k5) k6 (beq_eq_false_iff_ne.2 k6) k7 (beq_eq_false_iff_ne.2 k7) k8 (beq_eq_false_iff_ne.2 k8) k9 (beq_eq_false_iff_ne.2 k9)
end Go.Proofs.Ytddnbpgibfmolaa
