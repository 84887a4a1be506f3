/- append(v, r) of one int, as one step of a region that draws its order: where the new slice lies. -/
import Derived.Test.YtlkkdpmloeipjaaD3
import Derived.Maps.AppendAt
namespace Go.Proofs.Ytlkkdpmloeipjaa
open Go.RowKit Go.Proofs.YtlkkdpmloeipjaaW.PrintWords Go.Maps
set_option linter.unusedVariables false

section
variable {ops : Array Oper} {o : Oper} {a : Act} {Q : Exit → Act → World → Prop} {K : Act → World → Prop} {W : World}
theorem step_append1 (hg : o.guard = none) (s x : Operand) (ho : o.op = .call { callee := .builtin .append, args := #[s, x], argTypes := #[31, 31] })
    (base : Nat) (v : Value) (zs : List Int) (r : Int) (g c : Nat) (hs : a.eval s = v) (hx : a.eval x = .slice (some ⟨g, 0, none⟩) 1 c) (hown : W.ownsInts base 3 .i64 v zs)
    (hb : W.heap[g]? = some (.cells #[.int .i64 r] 3 (0, 0))) (hr : (Lit.int .i64 r).wf = true) (hl : zs.length ≤ 1000000) (hbase : base ≤ W.heap.size)
    (h : ∀ v' w', w'.ownsInts base 3 .i64 v' (zs ++ [r]) → W.grownBy w' v.ownBlock → (v'.ownBlock = v.ownBlock ∨ v'.ownBlock = some W.heap.size) → K (a.put o.dst v') w') :
    if Region.wanted o (yielded ops a.tmps) = true then Oper.wp Try.prog o a W K Q else K (a.put o.dst undef) W := by
  refine step_plain hg ?_
  obtain ⟨i0, hi, hz0, hz1, hz2⟩ := info_parts infoI
  obtain ⟨v', w', hrun, h2, h3, h4, h5⟩ := run_append_own_at (P := Try.prog) W base 31 o.type 3 i0 (.int .i64 0) 1 8 Try.underlying31 hi hz0 hz1 hz2 rfl (by decide) v zs.length (zs.map (Value.int .i64)) hown.1 ⟨g, 0, none⟩ 1 c [.int .i64 r] rfl
    (fun j u hj => by
      match j, hj with
      | 0, hj =>
        obtain rfl : Value.int .i64 r = u := Option.some.inj hj
        exact blk_cell hb 0
      | j + 1, hj => simp at hj) (fun u hu => by rw [List.mem_singleton.1 hu]; rfl) (by unfold maxLen; omega) (by omega) hbase
  have h6 : w'.ownsInts base 3 .i64 v' (zs ++ [r]) := ⟨by have := h2; simpa using this, fun z hz => by
    rcases List.mem_append.1 hz with hz | hz
    · exact hown.2 z hz
    · rw [List.mem_singleton.1 hz]; exact hr⟩
  unfold Oper.wp execOp
  simp only [ho, resolve, invoke, builtin, Sem.run_bind, Sem.run_pure, Result.andThen_ok, List.map_toArray, List.map_cons, List.map_nil, hs, hx, hrun]
  exact h v' w' h6 h3 h5
end
end Go.Proofs.Ytlkkdpmloeipjaa
