/- irun.wrong. -/
import Derived.Test.YtlkkdpmloeipjaaA7
import Derived.Deep.RegionLaw
namespace Go.Proofs.Ytlkkdpmloeipjaa
open Go.RowKit Go.Proofs.YtlkkdpmloeipjaaW.PrintWords
set_option linter.unusedVariables false

def bad14 (x : Ir) : Bool := decide (x.kind < 1 ∨ 10 < x.kind ∨ (x.kind = 3 ∧ (x.op < 1 ∨ 10 < x.op)) ∨ (x.kind = 7 ∧ (6 < x.args.length ∨ namedB x.name = false)))
def outReg (c : Code) (r : Int) : Bool := decide (r < 0 ∨ c.regs ≤ r)
def bad15 (c : Code) (x : Ir) : Bool := (readsL x).any (outReg c) || (writesB x && outReg c x.d)
def bad16 (c : Code) (x : Ir) : Bool := decide ((x.kind = 5 ∨ x.kind = 6) ∧ c.cells ≤ x.n)
def bad17 (c : Code) (i : Nat) (x : Ir) : Bool := decide ((x.kind = 8 ∨ x.kind = 9) ∧ (x.c ≤ i ∨ (c.l.length : Int) ≤ x.c))
def bad18 (c : Code) (i : Nat) (x : Ir) : Bool := decide (i + 1 = c.l.length ∧ x.kind ≠ 10)
/-- What is wrong with the i-th instruction. -/
def wrongE (c : Code) (i : Nat) (x : Ir) : Int := if bad14 x = true then 14 else if bad15 c x = true then 15 else if bad16 c x = true then 16 else if bad17 c i x = true then 17 else if bad18 c i x = true then 18 else 0

theorem ret_i64 {a b : Int} (h : a = b) : Ending.returned (.int .i64 a) = .returned (.int .i64 b) := by rw [h]

/-- An instruction's value, as it is handed on. -/
abbrev irV (x : Ir) (A : Option Addr) (cp : Nat) : Value := .agg #[.int .i64 x.kind, .int .i64 x.op, .int .i64 x.d, .int .i64 x.a, .int .i64 x.b, .int .i64 x.c, .int .u32 x.n, .string x.name, .slice A x.args.length cp]

set_option maxHeartbeats 4000000 in
set_option maxRecDepth 100000 in
theorem wrong_14 (c : Code) (A1 : Option Addr) (c1 : Nat) (A4 : Option Addr) (c4 : Nat) (i : Nat) (x : Ir) (w : World) (hx : c.l[i]? = some x) (h100 : x.name.size ≤ 100) (hr : Kd.C kIr w A4 c.l.length c.l) (h14 : bad14 x = true) :
    Calls Try.prog 45 #[codeV c A1 c1 A4 c4, .int .i64 i] w fun e w' => e = .returned (.int .i64 14) ∧ Below w.heap.size w w' := by
  have hi := (List.getElem?_eq_some_iff.1 hx).1
  obtain ⟨y, ad, A8, c8, rfl, hy, h0, h1, h2, h3, h4, h5, h6, h7, h8, hc8, hC8⟩ := nt_Ir hr (below_alloc (Below.refl w.heap.size w) (.cells #[.string c.name, .slice A1 c.params.length c1, .int .i64 c.regs, .int .i64 c.cells, .slice A4 c.l.length c4] 25)) i hi
  obtain rfl : y = x := by rw [hx] at hy; exact (Option.some.inj hy).symm
  clear hr hx hy hC8 hc8
  obtain ⟨cname, params, regs, cells, l⟩ := c
  obtain ⟨kind, op, d, a, b, cc, n, name, args⟩ := y
  simp only [codeV, bad14, decide_eq_true_eq] at *
  have hs : name.size ≤ 140737488351232 := by omega
  have hu := Try.underlying33
  have hu2 := Try.underlying25
  rcases h14 with h | h | ⟨h, hop | hop⟩ | ⟨h, ha | hn⟩
  · go_enter Try.func45, Try.ntmps45
    go_wp2
    go_ret
    exact ⟨rfl, below_alloc (below_alloc (Below.refl _ _) _) _⟩
  · have hk : ¬ kind < 1 := by omega
    go_enter Try.func45, Try.ntmps45
    go_wp2
    go_ret
    exact ⟨rfl, below_alloc (below_alloc (Below.refl _ _) _) _⟩
  · subst h
    go_enter Try.func45, Try.ntmps45
    go_wp2
    go_ret
    exact ⟨rfl, below_alloc (below_alloc (Below.refl _ _) _) _⟩
  · subst h
    have hop2 : ¬ op < 1 := by omega
    go_enter Try.func45, Try.ntmps45
    go_wp2
    go_ret
    exact ⟨rfl, below_alloc (below_alloc (Below.refl _ _) _) _⟩
  · subst h
    go_enter Try.func45, Try.ntmps45
    go_wp2
    go_ret
    exact ⟨rfl, below_alloc (below_alloc (Below.refl _ _) _) _⟩
  · subst h
    by_cases ha : 6 < args.length
    · go_enter Try.func45, Try.ntmps45
      go_wp2
      go_ret
      exact ⟨rfl, below_alloc (below_alloc (Below.refl _ _) _) _⟩
    · go_enter Try.func45, Try.ntmps45
      go_wp2_with (go_at_call 68; (with_reducible refine (named_any name _ hs).mono ?_); rintro e w' ⟨rfl, n, rfl⟩)
      go_ret
      exact ⟨rfl, pw_below_drewN (below_alloc (below_alloc (Below.refl _ _) _) _) _⟩
end Go.Proofs.Ytlkkdpmloeipjaa
