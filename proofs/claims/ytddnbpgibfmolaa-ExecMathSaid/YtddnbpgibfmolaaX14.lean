/- carlingref06.Same, carlingref14.Light. -/
import Derived.Test.YtddnbpgibfmolaaX11
namespace Go.Proofs.Ytddnbpgibfmolaa
open Go.RowKit Go.Proofs.YtddnbpgibfmolaaW.PrintWords
set_option linter.unusedVariables false

set_option maxRecDepth 100000 in
set_option maxHeartbeats 8000000 in
theorem osame_any (r q : Int) (xs ys : List Int) (A B : Option Addr) (c d : Nat) (w : World) (hx : Kd.C (Kd.int .u32) w A xs.length xs) (hy : Kd.C (Kd.int .u32) w B ys.length ys) :
    Calls Try.prog 18 #[.agg #[.int .u32 r, .slice A xs.length c], .agg #[.int .u32 q, .slice B ys.length d]] w fun e w' => e = .returned (.bool (decide (r = q ∧ xs = ys))) ∧ Below w.heap.size w w' := by
  have hlx := hx.2.1
  have HX := Aside0.mk hx
  have HY := Aside0.mk hy
  clear hx hy
  have hu := Try.underlying38
  have HQ := Aside0.mk (fun (W : World) (h : Below (w.heap.size + 2) ((w.alloc (.cells #[.int .u32 r, .slice A xs.length c] 38)).alloc (.cells #[.int .u32 q, .slice B ys.length d] 38)) W) => (show W.cell? ⟨w.heap.size, 1, none⟩ = some (.slice A xs.length c) ∧ W.cell? ⟨w.heap.size + 1, 1, none⟩ = some (.slice B ys.length d) from ⟨box2_fst h 1, box2_snd h 1⟩))
  by_cases hr : r = q
  · subst hr
    by_cases hn : xs.length = ys.length
    · have hnb : (xs.length != ys.length) = false := by simp [hn]
      have hrb : (r != r) = false := by simp
      rw [← hn] at HY HQ ⊢
      have HN := Aside0.mk hn
      clear hn
      go_enter Try.func18, Try.ntmps18
      go_wp2
      go_loopw [5] (fun v5 wr => ∃ k : Nat, k ≤ xs.length ∧ v5 = .int .i64 k ∧ Aside0 (xs.take k = ys.take k) ∧ Aside0 (Below (w.heap.size + 2) ((w.alloc (.cells #[.int .u32 r, .slice A xs.length c] 38)).alloc (.cells #[.int .u32 r, .slice B xs.length d] 38)) wr)) (fun v5 _ => xs.length - (intOf v5).toNat)
      case atStart => exact ⟨0, Nat.zero_le _, rfl, ⟨rfl⟩, ⟨Below.refl _ _⟩⟩
      case round =>
        obtain ⟨k, hk, rfl, HE, HB⟩ := hrel
        obtain ⟨p0, p1⟩ := HQ.out wr HB.out
        by_cases hlt : k < xs.length
        · obtain ⟨ad, x, rfl, hx, h0⟩ := nt_scalar HX.out (box2_below HB.out) k hlt
          obtain ⟨bd, y, rfl, hy, g0⟩ := nt_scalar (HN.out ▸ HY.out) (box2_below HB.out) k (by rw [← HN.out]; exact hlt)
          by_cases he : x = y
          · have HT := Aside0.mk (show xs.take (k + 1) = ys.take (k + 1) by rw [take_snoc_at hx, take_snoc_at hy, HE.out, he])
            clear hx hy
            have hq : (x != y) = false := by simp [he]
            clear he
            go_wp2
            go_quiet (fail)
            go_wp2
            go_roundw
            case rel => exact ⟨k + 1, by omega, by go_num, HT, ⟨pw_below_drewN HB.out _⟩⟩
            case measure => simp [intOf]; omega
          · have HF := Aside0.mk (show decide (r = r ∧ xs = ys) = false from decide_eq_false (fun h => he (by rw [h.2, hy] at hx; exact (Option.some.inj hx).symm)))
            clear hx hy
            have hq : (x != y) = true := bne_iff_ne.2 he
            clear he
            go_wp2
            go_quiet (fail)
            go_wp2
            go_ret
            exact ⟨ret_bool HF.out.symm, pw_below_drewN (box2_below HB.out) _⟩
        · obtain rfl : xs.length = k := by omega
          have HF := Aside0.mk (show xs = ys by have := HE.out; rwa [List.take_length, HN.out, List.take_length] at this)
          go_wp2
          go_ret
          exact ⟨ret_bool (by have := HF.out; simp [this]), box2_below HB.out⟩
    · have hnb : (xs.length != ys.length) = true := by simp [hn]
      have hrb : (r != r) = false := by simp
      have HF := Aside0.mk (show ¬ xs = ys from fun h => hn (by rw [h]))
      go_enter Try.func18, Try.ntmps18
      go_wp2
      go_ret
      exact ⟨ret_bool (by have := HF.out; simp [this]), below_alloc (below_alloc (Below.refl _ _) _) _⟩
  · have hrb : (r != q) = true := bne_iff_ne.2 hr
    have HF := Aside0.mk (show decide (r = q ∧ xs = ys) = false from decide_eq_false (fun h => hr h.1))
    clear hr
    go_enter Try.func18, Try.ntmps18
    go_wp2
    go_ret
    exact ⟨ret_bool HF.out.symm, below_alloc (below_alloc (Below.refl _ _) _) _⟩

/-- May an image be gone through in laws? -/
def ilOk (x : Entry) : Bool := decide (x.name.size ≤ 100 ∧ x.params.length ≤ 20)
def ilight (m : Image) : Bool := decide (m.code.length ≤ 21000 ∧ m.entries.length ≤ 200 ∧ m.mem ≤ 5000) && m.entries.all ilOk
theorem ilight_ok {m : Image} (h : ilight m = true) (hn : ∀ x ∈ m.code, 0 ≤ x.n ∧ x.n < 4294967296) : ImgOk m := by
  unfold ilight at h
  rw [Bool.and_eq_true, decide_eq_true_eq, List.all_eq_true] at h
  exact ⟨h.1.1, by omega, fun x hx => (of_decide_eq_true (h.2 x hx)).1, fun x hx => (of_decide_eq_true (h.2 x hx)).2, hn⟩
set_option maxRecDepth 100000 in
set_option maxHeartbeats 8000000 in
theorem ilight_any (m : Image) (A0 : Option Addr) (c0 : Nat) (A1 : Option Addr) (c1 : Nat) (w : World) (hat : ImgAt w m A0 c0 A1 c1) :
    Calls Try.prog 16 #[imgV m A0 c0 A1 c1] w fun e w' => e = .returned (.bool (ilight m)) ∧ Below w.heap.size w w' := by
  have HT := Aside0.mk hat
  have hel := hat.ents.2.1
  clear hat
  have hu := Try.underlying31
  have hu2 := Try.underlying36
  have HX := Aside0.mk (fun (W : World) (h : Below (w.heap.size + 1) (w.alloc (.cells #[.slice A0 m.entries.length c0, .slice A1 m.code.length c1, .int .i64 m.mem] 31)) W) => (show W.cell? ⟨w.heap.size, 0, none⟩ = some (.slice A0 m.entries.length c0) from box_cells h 0))
  simp only [imgV] at *
  by_cases h1 : 21000 < m.code.length
  · have HF := Aside0.mk (show ilight m = false by unfold ilight; rw [decide_eq_false (by omega)]; rfl)
    go_enter Try.func16, Try.ntmps16
    go_wp2
    go_ret
    exact ⟨ret_bool HF.out.symm, below_alloc (Below.refl _ _) _⟩
  by_cases h2 : 200 < m.entries.length
  · have HF := Aside0.mk (show ilight m = false by unfold ilight; rw [decide_eq_false (by omega)]; rfl)
    go_enter Try.func16, Try.ntmps16
    go_wp2
    go_ret
    exact ⟨ret_bool HF.out.symm, below_alloc (Below.refl _ _) _⟩
  by_cases h3 : 5000 < m.mem
  · have HF := Aside0.mk (show ilight m = false by unfold ilight; rw [decide_eq_false (by omega)]; rfl)
    go_enter Try.func16, Try.ntmps16
    go_wp2
    go_ret
    exact ⟨ret_bool HF.out.symm, below_alloc (Below.refl _ _) _⟩
  have HS := Aside0.mk (show ilight m = m.entries.all ilOk by unfold ilight; rw [decide_eq_true (by omega)]; rfl)
  go_enter Try.func16, Try.ntmps16
  go_wp2
  go_loop [3] (fun v3 => ∃ k : Nat, k ≤ m.entries.length ∧ v3 = .int .i64 k ∧ Aside0 ((m.entries.take k).all ilOk = true)) (fun v3 => m.entries.length - (intOf v3).toNat)
  case atStart => exact ⟨0, Nat.zero_le _, rfl, ⟨rfl⟩⟩
  case round =>
    obtain ⟨k, hk, rfl, HA⟩ := hrel
    by_cases hlt : k < m.entries.length
    · obtain ⟨x, ad, Ap, cp, rfl, hx, y0, y1, y2, y3, y4, hlp, hCp⟩ := nt_Entry HT.out.ents (below_alloc (Below.refl w.heap.size w) (.cells #[.slice A0 m.entries.length c0, .slice A1 m.code.length c1, .int .i64 m.mem] 31)) k hlt
      have HXk := Aside0.mk hx
      clear hx y2 y3 y4 hCp
      obtain ⟨nm, params, pos, base, cells⟩ := x
      simp only at y0 y1
      by_cases n1 : 100 < nm.size
      · have HN := Aside0.mk (all_false (f := ilOk) HXk.out (by simp [ilOk]; omega))
        go_wp2
        go_ret
        exact ⟨ret_bool (by rw [HS.out, HN.out]), below_alloc (Below.refl _ _) _⟩
      by_cases n2 : 20 < params.length
      · have HN := Aside0.mk (all_false (f := ilOk) HXk.out (by simp [ilOk]; omega))
        go_wp2
        go_ret
        exact ⟨ret_bool (by rw [HS.out, HN.out]), below_alloc (Below.refl _ _) _⟩
      have HN := Aside0.mk (all_snoc (f := ilOk) HXk.out HA.out (by simp [ilOk]; omega))
      go_wp2
      go_round
      case rel => exact ⟨k + 1, by omega, by go_num, HN⟩
      case measure => simp [intOf]; omega
    · obtain rfl : m.entries.length = k := by omega
      have HN := Aside0.mk (show m.entries.all ilOk = true by have := HA.out; rwa [List.take_length] at this)
      go_wp2
      go_ret
      exact ⟨ret_bool (by rw [HS.out, HN.out]), below_alloc (Below.refl _ _) _⟩
end Go.Proofs.Ytddnbpgibfmolaa
