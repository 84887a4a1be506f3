/- span.Meet, carlingref11.Meet, carlinglaw11.awake. -/
import Derived.Test.YtlkkdpmloeipjaaA13
import Derived.ChangeKeysEq
namespace Go.Proofs.Ytlkkdpmloeipjaa
open Go.RowKit Go.Proofs.YtlkkdpmloeipjaaW.PrintWords
set_option linter.unusedVariables false

theorem spans_any (c : Code) (A1 : Option Addr) (c1 : Nat) (A4 : Option Addr) (c4 : Nat) (w : World) (hok : CodeOk c) (hat : CodeAt w c A1 c1 A4 c4) :
    Calls Try.prog 23 #[codeV c A1 c1 A4 c4] w (RetSp w (spansE c)) := by
  by_cases hb : (rightE c).1 = 0
  · exact spans_ok c A1 c1 A4 c4 w hok hat hb
  · exact spans_bad c A1 c1 A4 c4 w hok hat hb

/-- May two spans not share a place? -/
def meetB (a b : Sp) : Bool := decide (a.lo < a.hi) && decide (b.lo < b.hi) && decide (a.lo < b.hi) && decide (b.lo < a.hi)
abbrev spV (a : Sp) : Value := .agg #[.int .i64 a.lo, .int .i64 a.hi]

set_option maxHeartbeats 400000 in
theorem meet_any (a b : Sp) (w : World) :
    Calls Try.prog 20 #[spV a, spV b] w fun e w' => e = .returned (.bool (meetB a b)) ∧ Below w.heap.size w w' := by
  obtain ⟨a0, a1⟩ := a
  obtain ⟨b0, b1⟩ := b
  simp only [spV]
  by_cases h1 : a0 < a1
  · by_cases h2 : b0 < b1
    · by_cases h3 : a0 < b1
      · by_cases h4 : b0 < a1
        · have HF := Aside0.mk (show meetB ⟨a0, a1⟩ ⟨b0, b1⟩ = true by simp [meetB, h1, h2, h3, h4])
          go_enter Try.func20, Try.ntmps20
          go_wp2
          go_ret
          exact ⟨ret_bool HF.out.symm, below_alloc (below_alloc (Below.refl _ _) _) _⟩
        · have HF := Aside0.mk (show meetB ⟨a0, a1⟩ ⟨b0, b1⟩ = false by simp [meetB]; omega)
          go_enter Try.func20, Try.ntmps20
          go_wp2
          go_ret
          exact ⟨ret_bool HF.out.symm, below_alloc (below_alloc (Below.refl _ _) _) _⟩
      · have HF := Aside0.mk (show meetB ⟨a0, a1⟩ ⟨b0, b1⟩ = false by simp [meetB]; omega)
        go_enter Try.func20, Try.ntmps20
        go_wp2
        go_ret
        exact ⟨ret_bool HF.out.symm, below_alloc (below_alloc (Below.refl _ _) _) _⟩
    · have HF := Aside0.mk (show meetB ⟨a0, a1⟩ ⟨b0, b1⟩ = false by simp [meetB]; omega)
      go_enter Try.func20, Try.ntmps20
      go_wp2
      go_ret
      exact ⟨ret_bool HF.out.symm, below_alloc (below_alloc (Below.refl _ _) _) _⟩
  · have HF := Aside0.mk (show meetB ⟨a0, a1⟩ ⟨b0, b1⟩ = false by simp [meetB]; omega)
    go_enter Try.func20, Try.ntmps20
    go_wp2
    go_ret
    exact ⟨ret_bool HF.out.symm, below_alloc (below_alloc (Below.refl _ _) _) _⟩
set_option maxHeartbeats 400000 in
theorem rmeet_any (a b : Sp) (w : World) :
    Calls Try.prog 21 #[spV a, spV b] w fun e w' => e = .returned (.bool (meetB a b)) ∧ Below w.heap.size w w' := by
  obtain ⟨a0, a1⟩ := a
  obtain ⟨b0, b1⟩ := b
  simp only [spV]
  by_cases h1 : a0 < a1
  · by_cases h2 : b0 < b1
    · by_cases h3 : a0 < b1
      · by_cases h4 : b0 < a1
        · have HF := Aside0.mk (show meetB ⟨a0, a1⟩ ⟨b0, b1⟩ = true by simp [meetB, h1, h2, h3, h4])
          go_enter Try.func21, Try.ntmps21
          go_wp2
          go_ret
          exact ⟨ret_bool HF.out.symm, below_alloc (below_alloc (Below.refl _ _) _) _⟩
        · have HF := Aside0.mk (show meetB ⟨a0, a1⟩ ⟨b0, b1⟩ = false by simp [meetB]; omega)
          go_enter Try.func21, Try.ntmps21
          go_wp2
          go_ret
          exact ⟨ret_bool HF.out.symm, below_alloc (below_alloc (Below.refl _ _) _) _⟩
      · have HF := Aside0.mk (show meetB ⟨a0, a1⟩ ⟨b0, b1⟩ = false by simp [meetB]; omega)
        go_enter Try.func21, Try.ntmps21
        go_wp2
        go_ret
        exact ⟨ret_bool HF.out.symm, below_alloc (below_alloc (Below.refl _ _) _) _⟩
    · have HF := Aside0.mk (show meetB ⟨a0, a1⟩ ⟨b0, b1⟩ = false by simp [meetB]; omega)
      go_enter Try.func21, Try.ntmps21
      go_wp2
      go_ret
      exact ⟨ret_bool HF.out.symm, below_alloc (below_alloc (Below.refl _ _) _) _⟩
  · have HF := Aside0.mk (show meetB ⟨a0, a1⟩ ⟨b0, b1⟩ = false by simp [meetB]; omega)
    go_enter Try.func21, Try.ntmps21
    go_wp2
    go_ret
    exact ⟨ret_bool HF.out.symm, below_alloc (below_alloc (Below.refl _ _) _) _⟩

/-- '==' of two spans. -/
theorem infoInt : ∃ i, Try.prog.info? 3 = some i := by
  cases h : Try.prog.info? 3 with
  | some i => exact ⟨i, rfl⟩
  | none => have := infoI; rw [h] at this; simp at this
theorem partInt (xs : Array Value) (i : Nat) (v : Value) (w : World) (h : xs[i]? = some v) : (part 3 xs i).run Try.prog w = .ok v w := by
  obtain ⟨inf, hi⟩ := infoInt
  have h2 := infoI
  rw [hi] at h2
  simp only [Option.map_some, Option.some.injEq, Prod.mk.injEq] at h2
  simp [part, h, sizeOf, typeInfo, hi, isAgg, Try.isAgg3]
theorem eqSpD (d : Nat) (a b c e : Int) (w : World) : (Op.equalIn (d + 1 + 1) 26 (.agg #[.int .i64 a, .int .i64 b]) (.agg #[.int .i64 c, .int .i64 e])).run Try.prog w = .ok (a == c && b == e) w := by
  obtain ⟨inf, hi⟩ := infoInt
  rw [run_equalIn_array (P := Try.prog) w (d + 1) (n := 2) _ _ Try.underlying26 hi]
  have hc : Try.prog.cellsOf 3 = 1 := by kernel_rfl
  rw [hc]
  show (Op.eqItems (d + 1) 3 1 _ _ [0, 1]).run Try.prog w = _
  have hI : ∀ x y : Int, (Op.equalIn (d + 1) 3 (.int .i64 x) (.int .i64 y)).run Try.prog w = .ok (x == y) w := fun (x y : Int) => run_equalIn_int (P := Try.prog) w d 3 .i64 .i64 x y Try.underlying3
  have p1 := partInt #[.int .i64 a, .int .i64 b] 0 _ w rfl
  have p2 := partInt #[.int .i64 c, .int .i64 e] 0 _ w rfl
  have p3 := partInt #[.int .i64 a, .int .i64 b] 1 _ w rfl
  have p4 := partInt #[.int .i64 c, .int .i64 e] 1 _ w rfl
  simp only [Op.eqItems, Sem.run_bind, Nat.zero_mul, Nat.one_mul, p1, p2, p3, p4, Result.andThen_ok, hI]
  cases hac : (a == c)
  · simp [hI, hac]
  · obtain rfl := eq_of_beq hac
    cases hbe : (b == e)
    · simp [p3, p4, hI, hbe]
    · obtain rfl := eq_of_beq hbe
      simp [p3, p4, hI]
theorem eqSp (a b c e : Int) (w : World) : (Op.equalIn 10000 26 (.agg #[.int .i64 a, .int .i64 b]) (.agg #[.int .i64 c, .int .i64 e])).run Try.prog w = .ok (a == c && b == e) w := eqSpD 9998 a b c e w

/-- A row that lies in a block. -/
theorem C_blk {α : Type} {d : Kd α} {w : World} {g : Nat} {cs : Array Value} {t : TypeId} {xs : List α} (hb : w.heap[g]? = some (.cells cs t (0, 0))) (h : Reps (d.K w) d.sz xs cs.toList) (hl : xs.length ≤ 9223372036854775807) :
    Kd.C d w (some ⟨g, 0, none⟩) xs.length xs := by
  refine ⟨rfl, hl, fun _ => ⟨_, rfl, fun j p hj => ⟨(cs.toList.drop (j * d.sz)).take d.sz, ?_, h.2 j p hj, fun i u hi => ?_⟩⟩⟩
  · exact d.K_len (h.2 j p hj)
  · rw [add_plain, blk_cell hb]
    rw [List.getElem?_take] at hi
    split at hi
    · rw [List.getElem?_drop] at hi
      rw [← Array.getElem?_toList]; exact hi
    · exact absurd hi (by simp)

end Go.Proofs.Ytlkkdpmloeipjaa
