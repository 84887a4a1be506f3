/- irun.reads, carlingref07.Reads, irun.writes, carlingref07.Writes. -/
import Derived.Test.YtlkkdpmloeipjaaA5
namespace Go.Proofs.Ytlkkdpmloeipjaa
open Go.RowKit Go.Proofs.YtlkkdpmloeipjaaW.PrintWords
set_option linter.unusedVariables false

/-- The registers that an instruction reads. -/
def readsL (x : Ir) : List Int :=
  if x.kind = 2 ∨ x.kind = 6 ∨ x.kind = 9 ∨ x.kind = 10 then [x.a] else if x.kind = 3 then [x.a, x.b] else if x.kind = 4 then [x.a, x.b, x.c] else if x.kind = 7 then x.args else []
/-- Does it write D? -/
def writesB (x : Ir) : Bool := decide (1 ≤ x.kind ∧ x.kind ≤ 5) || decide (x.kind = 7)

theorem C_ints {k : IntKind} {w : World} {g : Nat} {cs : Array Value} {t : Nat} {l : List Int} (hb : w.heap[g]? = some (.cells cs t (0, 0))) (h : ∀ (j : Nat) (x : Int), l[j]? = some x → cs[j]? = some (Value.int k x)) (hl : l.length ≤ 9223372036854775807) :
    Kd.C (Kd.int k) w (some ⟨g, 0, none⟩) l.length l := by
  refine ⟨rfl, hl, fun _ => ⟨_, rfl, fun j p hj => ⟨[.int k p], rfl, rfl, fun i u hi => ?_⟩⟩⟩
  cases i with
  | zero =>
    have : u = Value.int k p := by simpa using hi.symm
    subst this
    show w.cell? (Addr.add ⟨g, 0, none⟩ (j * 1 + 0)) = _
    rw [Nat.mul_one, Nat.add_zero, add_plain, blk_cell hb, h j p hj]
  | succ i => simp at hi
theorem blk_new1 (w : World) (o1 o2 : Go.Obj) : ((w.alloc o1).alloc o2).heap[w.heap.size + 1]? = some o2 := by
  have := blk_new (w.alloc o1) o2
  rwa [World.size_alloc] at this

/-- A call's result that is a slice of ints, to be read only. -/
def RetInts (w : World) (l : List Int) (e : Ending) (w' : World) : Prop := ∃ A c, e = .returned (.slice A l.length c) ∧ l.length ≤ c ∧ Kd.C (Kd.int .i64) w' A l.length l ∧ Below w.heap.size w w'

set_option maxHeartbeats 1000000 in
theorem reads_any (x : Ir) (A : Option Addr) (cp : Nat) (w : World) (hr : Kd.C (Kd.int .i64) w A x.args.length x.args) (hc : x.args.length ≤ cp) :
    Calls Try.prog 70 #[.agg #[.int .i64 x.kind, .int .i64 x.op, .int .i64 x.d, .int .i64 x.a, .int .i64 x.b, .int .i64 x.c, .int .u32 x.n, .string x.name, .slice A x.args.length cp]] w (RetInts w (readsL x)) := by
  obtain ⟨kind, op, d, a, b, c, n, name, args⟩ := x
  simp only at hr hc
  have HR := Aside0.mk hr
  clear hr
  have hu := Try.underlying33
  by_cases h1 : kind = 2 ∨ kind = 6 ∨ kind = 9 ∨ kind = 10
  · have HL := Aside0.mk (show readsL ⟨kind, op, d, a, b, c, n, name, args⟩ = [a] from if_pos h1)
    rcases h1 with rfl | rfl | rfl | rfl
    all_goals
      go_enter Try.func70, Try.ntmps70
      go_wp2
      go_ret
      rw [HL.out]
      exact ⟨_, _, rfl, Nat.le_refl _, C_ints (cs := #[.int .i64 a]) (blk_new1 _ _ _) (fun j x hj => by cases j with | zero => simpa using hj | succ j => simp at hj) (by simp), below_alloc (below_alloc (Below.refl _ _) _) _⟩
  have h2 : (kind == 2) = false := beq_eq_false_iff_ne.2 (by omega)
  have h6 : (kind == 6) = false := beq_eq_false_iff_ne.2 (by omega)
  have h9 : (kind == 9) = false := beq_eq_false_iff_ne.2 (by omega)
  have h10 : (kind == 10) = false := beq_eq_false_iff_ne.2 (by omega)
  by_cases h3 : kind = 3
  · have HL := Aside0.mk (show readsL ⟨kind, op, d, a, b, c, n, name, args⟩ = [a, b] by unfold readsL; rw [if_neg h1, if_pos h3])
    clear h1 h2 h6 h9 h10
    subst h3
    go_enter Try.func70, Try.ntmps70
    go_wp2
    go_ret
    rw [HL.out]
    exact ⟨_, _, rfl, Nat.le_refl _, C_ints (cs := #[.int .i64 a, .int .i64 b]) (blk_new1 _ _ _) (fun j x hj => by match j, hj with | 0, hj => simpa using hj | 1, hj => simpa using hj | j + 2, hj => simp at hj) (by simp), below_alloc (below_alloc (Below.refl _ _) _) _⟩
  by_cases h4 : kind = 4
  · have HL := Aside0.mk (show readsL ⟨kind, op, d, a, b, c, n, name, args⟩ = [a, b, c] by unfold readsL; rw [if_neg h1, if_neg h3, if_pos h4])
    clear h1 h2 h6 h9 h10 h3
    subst h4
    go_enter Try.func70, Try.ntmps70
    go_wp2
    go_ret
    rw [HL.out]
    exact ⟨_, _, rfl, Nat.le_refl _, C_ints (cs := #[.int .i64 a, .int .i64 b, .int .i64 c]) (blk_new1 _ _ _) (fun j x hj => by match j, hj with | 0, hj => simpa using hj | 1, hj => simpa using hj | 2, hj => simpa using hj | j + 3, hj => simp at hj) (by simp), below_alloc (below_alloc (Below.refl _ _) _) _⟩
  have h3b : (kind == 3) = false := beq_eq_false_iff_ne.2 h3
  have h4b : (kind == 4) = false := beq_eq_false_iff_ne.2 h4
  by_cases h7 : kind = 7
  · have HL := Aside0.mk (show readsL ⟨kind, op, d, a, b, c, n, name, args⟩ = args by unfold readsL; rw [if_neg h1, if_neg h3, if_neg h4, if_pos h7])
    clear h1 h2 h6 h9 h10 h3 h4 h3b h4b
    subst h7
    go_enter Try.func70, Try.ntmps70
    go_wp2
    go_ret
    rw [HL.out]
    exact ⟨_, _, rfl, hc, Kd.C_below HR.out (below_alloc (Below.refl _ _) _), below_alloc (Below.refl _ _) _⟩
  have h7b : (kind == 7) = false := beq_eq_false_iff_ne.2 h7
  have HL := Aside0.mk (show readsL ⟨kind, op, d, a, b, c, n, name, args⟩ = [] by unfold readsL; rw [if_neg h1, if_neg h3, if_neg h4, if_neg h7])
  clear h1 h3 h4 h7
  go_enter Try.func70, Try.ntmps70
  go_wp2
  go_ret
  rw [HL.out]
  exact ⟨none, 0, rfl, Nat.le_refl _, Kd.C_nil _ _, below_alloc (Below.refl _ _) _⟩
set_option maxHeartbeats 1000000 in
theorem rreads_any (x : Ir) (A : Option Addr) (cp : Nat) (w : World) (hr : Kd.C (Kd.int .i64) w A x.args.length x.args) (hc : x.args.length ≤ cp) :
    Calls Try.prog 28 #[.agg #[.int .i64 x.kind, .int .i64 x.op, .int .i64 x.d, .int .i64 x.a, .int .i64 x.b, .int .i64 x.c, .int .u32 x.n, .string x.name, .slice A x.args.length cp]] w (RetInts w (readsL x)) := by
  obtain ⟨kind, op, d, a, b, c, n, name, args⟩ := x
  simp only at hr hc
  have HR := Aside0.mk hr
  clear hr
  have hu := Try.underlying33
  by_cases h1 : kind = 2 ∨ kind = 6 ∨ kind = 9 ∨ kind = 10
  · have HL := Aside0.mk (show readsL ⟨kind, op, d, a, b, c, n, name, args⟩ = [a] from if_pos h1)
    rcases h1 with rfl | rfl | rfl | rfl
    all_goals
      go_enter Try.func28, Try.ntmps28
      go_wp2
      go_ret
      rw [HL.out]
      exact ⟨_, _, rfl, Nat.le_refl _, C_ints (cs := #[.int .i64 a]) (blk_new1 _ _ _) (fun j x hj => by cases j with | zero => simpa using hj | succ j => simp at hj) (by simp), below_alloc (below_alloc (Below.refl _ _) _) _⟩
  have h2 : (kind == 2) = false := beq_eq_false_iff_ne.2 (by omega)
  have h6 : (kind == 6) = false := beq_eq_false_iff_ne.2 (by omega)
  have h9 : (kind == 9) = false := beq_eq_false_iff_ne.2 (by omega)
  have h10 : (kind == 10) = false := beq_eq_false_iff_ne.2 (by omega)
  by_cases h3 : kind = 3
  · have HL := Aside0.mk (show readsL ⟨kind, op, d, a, b, c, n, name, args⟩ = [a, b] by unfold readsL; rw [if_neg h1, if_pos h3])
    clear h1 h2 h6 h9 h10
    subst h3
    go_enter Try.func28, Try.ntmps28
    go_wp2
    go_ret
    rw [HL.out]
    exact ⟨_, _, rfl, Nat.le_refl _, C_ints (cs := #[.int .i64 a, .int .i64 b]) (blk_new1 _ _ _) (fun j x hj => by match j, hj with | 0, hj => simpa using hj | 1, hj => simpa using hj | j + 2, hj => simp at hj) (by simp), below_alloc (below_alloc (Below.refl _ _) _) _⟩
  by_cases h4 : kind = 4
  · have HL := Aside0.mk (show readsL ⟨kind, op, d, a, b, c, n, name, args⟩ = [a, b, c] by unfold readsL; rw [if_neg h1, if_neg h3, if_pos h4])
    clear h1 h2 h6 h9 h10 h3
    subst h4
    go_enter Try.func28, Try.ntmps28
    go_wp2
    go_ret
    rw [HL.out]
    exact ⟨_, _, rfl, Nat.le_refl _, C_ints (cs := #[.int .i64 a, .int .i64 b, .int .i64 c]) (blk_new1 _ _ _) (fun j x hj => by match j, hj with | 0, hj => simpa using hj | 1, hj => simpa using hj | 2, hj => simpa using hj | j + 3, hj => simp at hj) (by simp), below_alloc (below_alloc (Below.refl _ _) _) _⟩
  have h3b : (kind == 3) = false := beq_eq_false_iff_ne.2 h3
  have h4b : (kind == 4) = false := beq_eq_false_iff_ne.2 h4
  by_cases h7 : kind = 7
  · have HL := Aside0.mk (show readsL ⟨kind, op, d, a, b, c, n, name, args⟩ = args by unfold readsL; rw [if_neg h1, if_neg h3, if_neg h4, if_pos h7])
    clear h1 h2 h6 h9 h10 h3 h4 h3b h4b
    subst h7
    go_enter Try.func28, Try.ntmps28
    go_wp2
    go_ret
    rw [HL.out]
    exact ⟨_, _, rfl, hc, Kd.C_below HR.out (below_alloc (Below.refl _ _) _), below_alloc (Below.refl _ _) _⟩
  have h7b : (kind == 7) = false := beq_eq_false_iff_ne.2 h7
  have HL := Aside0.mk (show readsL ⟨kind, op, d, a, b, c, n, name, args⟩ = [] by unfold readsL; rw [if_neg h1, if_neg h3, if_neg h4, if_neg h7])
  clear h1 h3 h4 h7
  go_enter Try.func28, Try.ntmps28
  go_wp2
  go_ret
  rw [HL.out]
  exact ⟨none, 0, rfl, Nat.le_refl _, Kd.C_nil _ _, below_alloc (Below.refl _ _) _⟩

set_option maxHeartbeats 1000000 in
theorem writes_any (x : Ir) (A : Option Addr) (cp n : Nat) (w : World) :
    Calls Try.prog 71 #[.agg #[.int .i64 x.kind, .int .i64 x.op, .int .i64 x.d, .int .i64 x.a, .int .i64 x.b, .int .i64 x.c, .int .u32 x.n, .string x.name, .slice A n cp]] w fun e w' => e = .returned (.bool (writesB x)) ∧ Below w.heap.size w w' := by
  obtain ⟨kind, op, d, a, b, c, nn, name, args⟩ := x
  have hu := Try.underlying33
  by_cases h1 : kind = 1 ∨ kind = 2 ∨ kind = 3 ∨ kind = 4 ∨ kind = 5 ∨ kind = 7
  · have HL := Aside0.mk (show writesB ⟨kind, op, d, a, b, c, nn, name, args⟩ = true by simp [writesB]; omega)
    rcases h1 with rfl | rfl | rfl | rfl | rfl | rfl
    all_goals
      go_enter Try.func71, Try.ntmps71
      go_wp2
      go_ret
      exact ⟨ret_bool HL.out.symm, below_alloc (Below.refl _ _) _⟩
  have HL := Aside0.mk (show writesB ⟨kind, op, d, a, b, c, nn, name, args⟩ = false by simp [writesB]; omega)
  have g1 : (kind == 1) = false := beq_eq_false_iff_ne.2 (by omega)
  have g2 : (kind == 2) = false := beq_eq_false_iff_ne.2 (by omega)
  have g3 : (kind == 3) = false := beq_eq_false_iff_ne.2 (by omega)
  have g4 : (kind == 4) = false := beq_eq_false_iff_ne.2 (by omega)
  have g5 : (kind == 5) = false := beq_eq_false_iff_ne.2 (by omega)
  have g7 : (kind == 7) = false := beq_eq_false_iff_ne.2 (by omega)
  clear h1
  go_enter Try.func71, Try.ntmps71
  go_wp2
  go_ret
  exact ⟨ret_bool HL.out.symm, below_alloc (Below.refl _ _) _⟩

set_option maxHeartbeats 1000000 in
theorem rwrites_any (x : Ir) (A : Option Addr) (cp n : Nat) (w : World) :
    Calls Try.prog 29 #[.agg #[.int .i64 x.kind, .int .i64 x.op, .int .i64 x.d, .int .i64 x.a, .int .i64 x.b, .int .i64 x.c, .int .u32 x.n, .string x.name, .slice A n cp]] w fun e w' => e = .returned (.bool (writesB x)) ∧ Below w.heap.size w w' := by
  obtain ⟨kind, op, d, a, b, c, nn, name, args⟩ := x
  have hu := Try.underlying33
  by_cases h1 : 1 ≤ kind ∧ kind ≤ 5
  · have HL := Aside0.mk (show writesB ⟨kind, op, d, a, b, c, nn, name, args⟩ = true by simp [writesB]; omega)
    obtain ⟨g1, g2⟩ := h1
    go_enter Try.func29, Try.ntmps29
    go_wp2
    go_ret
    exact ⟨ret_bool HL.out.symm, below_alloc (Below.refl _ _) _⟩
  by_cases h7 : kind = 7
  · have HL := Aside0.mk (show writesB ⟨kind, op, d, a, b, c, nn, name, args⟩ = true by simp [writesB]; omega)
    subst h7
    clear h1
    go_enter Try.func29, Try.ntmps29
    go_wp2
    go_ret
    exact ⟨ret_bool HL.out.symm, below_alloc (Below.refl _ _) _⟩
  have HL := Aside0.mk (show writesB ⟨kind, op, d, a, b, c, nn, name, args⟩ = false by simp [writesB]; omega)
  have g7 : (kind == 7) = false := beq_eq_false_iff_ne.2 h7
  clear h7
  by_cases h0 : 1 ≤ kind
  · have h5 : ¬ kind ≤ 5 := by omega
    clear h1
    go_enter Try.func29, Try.ntmps29
    go_wp2
    go_ret
    exact ⟨ret_bool HL.out.symm, below_alloc (Below.refl _ _) _⟩
  · clear h1
    go_enter Try.func29, Try.ntmps29
    go_wp2
    go_ret
    exact ⟨ret_bool HL.out.symm, below_alloc (Below.refl _ _) _⟩
end Go.Proofs.Ytlkkdpmloeipjaa
