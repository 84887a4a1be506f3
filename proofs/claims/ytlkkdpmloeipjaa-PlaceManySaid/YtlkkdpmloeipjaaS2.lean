/- Rows of spans of the call's own: append. -/
import Derived.Test.YtlkkdpmloeipjaaS1
import Derived.Test.YtlkkdpmloeipjaaB3
namespace Go.Proofs.Ytlkkdpmloeipjaa
open Go.RowKit Go.Proofs.YtlkkdpmloeipjaaW.PrintWords
set_option linter.unusedVariables false

/-- A slice of spans that the call itself has made. -/
abbrev OwnSp (W : World) (base : Nat) (v : Value) (xs : List Sp) : Prop := kSp.R 26 W base (fun _ => True) v xs
theorem ownSp_empty {W : World} {base g : Nat} (h : W.heap[g]? = some (.cells #[] 26 (0, 0))) (hb : base ≤ g) : OwnSp W base (.slice (some ⟨g, 0, none⟩) 0 0) [] :=
  ⟨fun _ _ => trivial, [], ⟨rfl, .inr ⟨g, 0, #[], rfl, hb, h, Nat.le_refl _, by simp [maxLen], rfl, rfl⟩⟩, ⟨rfl, fun j p hj => by simp at hj⟩⟩
theorem C_sp1 {w : World} {g : Nat} {s : Sp} (hb : w.heap[g]? = some (.cells #[.int .i64 s.lo, .int .i64 s.hi] 26 (0, 0))) : Kd.C kSp w (some ⟨g, 0, none⟩) [s].length [s] := by
  refine C_blk (xs := [s]) hb ⟨rfl, fun j p hj => ?_⟩ (by simp)
  match j, hj with
  | 0, hj =>
    obtain rfl : s = p := Option.some.inj hj
    exact kSp_mk w s
  | j + 1, hj => simp at hj
section
variable {ops : Array Oper} {o : Oper} {a : Act} {Q : Exit → Act → World → Prop} {K : Act → World → Prop} {W w0 : World} {rest : List Oper}
/-- append(v, l...) of spans, in a plain region. -/
theorem sp_app (base : Nat) (hgd : o.guard = none) (s x : Operand) (ho : o.op = .call { callee := .builtin .append, args := #[s, x], argTypes := #[40, 40] })
    (v : Value) (xs ys : List Sp) (A : Option Addr) (c : Nat) (hs : a.eval s = v) (hx : a.eval x = .slice A ys.length c) (HO : OwnSp W base v xs) (HC : Kd.C kSp W A ys.length ys) (HB : Below base w0 W) (hbase : base ≤ W.heap.size) (hl : xs.length + ys.length ≤ 1000000)
    (h : ∀ v1 w1, OwnSp w1 base v1 (xs ++ ys) → Below base w0 w1 → W.grownBy w1 v.ownBlock → wpList Try.prog ops Q rest (a.put o.dst v1) w1) :
    wpList Try.prog ops Q (o :: rest) a W := by
  refine Kd.R_append_rows kSp (Rr := kSp.K W) (w0 := w0) base hgd s x 40 26 (.agg #[.int .i64 0, .int .i64 0]) 16 ho Try.underlying40 info26 rfl (by decide) (by decide) v xs ys A ys.length c (fun _ => True) (fun _ => False) hs hx HO HC (fun x cs h => by rw [kSp_open h]; exact kSp_mkM ..) (fun _ h => h.elim) (fun _ _ => trivial) HB hbase (by omega) ?_
  intro v1 w1 h1 h2 h3 _
  exact h v1 w1 h1 h2 h3
end
theorem C_same {w w1 : World} {A : Option Addr} {xs : List Sp} (h : Kd.C kSp w A xs.length xs) (hs : ∀ ad, A = some ad → w1.heap[ad.block]? = w.heap[ad.block]?) : Kd.C kSp w1 A xs.length xs := by
  refine ⟨h.1, h.2.1, fun hp => ?_⟩
  obtain ⟨ad, e, hr⟩ := h.2.2 hp
  refine ⟨ad, e, fun j p hj => ?_⟩
  obtain ⟨cs, hl, hk, hc⟩ := hr j p hj
  refine ⟨cs, hl, ?_, fun i u hi => ?_⟩
  · rw [kSp_open hk]; exact kSp_mk _ _
  · have h2 := hc i u hi
    rw [← h2]
    exact World.cell?_of_block (a := ad.add (j * kSp.sz + i)) (by rw [addr_block]; exact hs ad e)
end Go.Proofs.Ytlkkdpmloeipjaa
