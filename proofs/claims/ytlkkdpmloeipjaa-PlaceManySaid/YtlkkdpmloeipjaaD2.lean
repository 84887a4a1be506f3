/- A map of slices: the laws as steps of a region that draws its order; what a range with delete leaves. -/
import Derived.Test.YtlkkdpmloeipjaaPL1
import Derived.Maps.OwnRows
import Derived.Maps.RangeWalk
namespace Go.Proofs.Ytlkkdpmloeipjaa
open Go.RowKit Go.Proofs.YtlkkdpmloeipjaaW.PrintWords Go.Maps
open Go.ChangeShapes (lits)
set_option linter.unusedVariables false

/-- Block b is a map of at most n entries, from int to slices of int of the call's own from 'base' on, that holds g (nil where there is none). -/
def GMap (w : World) (base b n : Nat) (g : Int → List Int) : Prop := ∃ D : DataW Unit, w.ownsGroups Try.prog 3 base 3 .i64 b n D ∧
  ∀ k, (g k = [] ∧ D.atKey (iLit k) .nil = .nil) ∨ (g k ≠ [] ∧ D.atKey (iLit k) .nil = .slice (lits .i64 (g k)) [])
theorem GMap_made (w : World) : GMap (w.alloc (.map #[] 0)) (w.heap.size + 1) w.heap.size 0 (fun _ => []) := ⟨_, World.ownsGroups_made _ _ _ _ _, fun k => .inl ⟨rfl, rfl⟩⟩
theorem lits_inj {a b : List Int} (h : lits (H := Unit) .i64 a = lits .i64 b) : a = b := by
  unfold lits at h
  induction a generalizing b with
  | nil => cases b with
    | nil => rfl
    | cons y b => simp at h
  | cons x a ih => cases b with
    | nil => simp at h
    | cons y b =>
      simp only [List.map_cons, List.cons.injEq] at h
      obtain ⟨h1, h2⟩ := h
      rw [ih h2]
      injection h1 with h1
      injection h1 with _ h1
      rw [h1]
/-- Who is left of a map that is ranged over, its entries up to a place being struck. -/
def sweepF (f : Int → Option Int) (at_ : Int) (left : Lit → Bool) : Int → Option Int := fun k => match f k with
  | some e => if e ≤ at_ ∧ left (iLit k) = false then none else some e
  | none => none
theorem sweep_start {f : Int → Option Int} {at_ : Int} {D : DataW Unit} (h : Holds D f) : sweepF f at_ (Maps.has D) = f := by
  funext k
  unfold sweepF
  cases hf : f k with
  | none => rfl
  | some e =>
    have := (h k).1
    rw [hf] at this
    simp only [Option.isSome_some] at this
    simp [this]
theorem sweep_end {f : Int → Option Int} {at_ : Int} {left : Lit → Bool} (h : ∀ k, left k = false) : sweepF f at_ left = dropF f at_ := by
  funext k
  unfold sweepF dropF
  cases f k with
  | none => rfl
  | some e => simp [h]
theorem sweep_struck {f : Int → Option Int} {at_ : Int} {left : Lit → Bool} {x e : Int} (hx : f x = some e) (he : e ≤ at_) :
    sweepF f at_ (fun z => left z && !z.sameKey (iLit x)) = updF (sweepF f at_ left) x none := by
  funext k
  unfold updF
  by_cases hk : k = x
  · subst hk
    rw [if_pos rfl]
    unfold sweepF
    rw [hx]
    simp [he, Lit.sameKey, iLit]
  · rw [if_neg hk]
    unfold sweepF
    cases f k with
    | none => rfl
    | some e' => simp only [sameKey_ne (iLit_ne hk), Bool.not_false, Bool.and_true]
theorem sweep_stays {f : Int → Option Int} {at_ : Int} {left : Lit → Bool} {x e : Int} (hx : f x = some e) (he : ¬ e ≤ at_) :
    sweepF f at_ (fun z => left z && !z.sameKey (iLit x)) = sweepF f at_ left := by
  funext k
  unfold sweepF
  by_cases hk : k = x
  · subst hk
    rw [hx]
    simp [he]
  · cases f k with
    | none => rfl
    | some e' => simp only [sameKey_ne (iLit_ne hk), Bool.not_false, Bool.and_true]

section
variable {ops : Array Oper} {o : Oper} {a : Act} {Q : Exit → Act → World → Prop} {K : Act → World → Prop} {W w0 : World}
theorem step_plain (hgd : o.guard = none) (h : Oper.wp Try.prog o a W K Q) : if Region.wanted o (yielded ops a.tmps) = true then Oper.wp Try.prog o a W K Q else K (a.put o.dst undef) W := by
  rw [if_pos (by simp [Region.wanted, hgd])]; exact h
/-- 'm[k]' of such a map, as one step of a region that draws its order. -/
theorem step_lookup (hg : o.guard = none) (m x : Operand) (hop : o.op = Op.lookup 85 m x false) (base b n : Nat) (D : DataW Unit)
    (hm : a.eval m = .map (some b)) (hown : W.ownsGroups Try.prog 3 base 3 .i64 b n D) (hn : n < maxLen) (k : Int) (hx : a.eval x = .int .i64 k) (hk : (Lit.int .i64 k).wf = true)
    (hK : ∀ v zs, D.atKey (iLit k) .nil = rowDatum .i64 v zs → W.ownsInts base 3 .i64 v zs → zs.length ≤ n → W.groupBack Try.prog 85 3 base 3 .i64 b n D (.int .i64 k) (iLit k) v → K (a.put o.dst v) W) :
    if Region.wanted o (yielded ops a.tmps) = true then Oper.wp Try.prog o a W K Q else K (a.put o.dst undef) W := by
  refine step_plain hg ?_
  obtain ⟨v, zs, hrun, hat, hoi, hzl, hback⟩ := hown.at (E := 31) law_int Try.underlying85 (by kernel_rfl) hn (keyOf_int_mk Try.underlying3 hk)
  unfold Oper.wp
  simp [execOp, hop, hm, hx, hrun, Result.andThen, Oper.upon]
  exact hK v zs hat hoi hzl hback
/-- 'm[k] = v' by the way back, as one step. -/
theorem step_update (hg : o.guard = none) (m x v : Operand) (hop : o.op = Op.mapUpdate 85 m x v) {base b n : Nat} {D : DataW Unit} {k : Int} {u v' : Value} {zs' : List Int}
    (hback : w0.groupBack Try.prog 85 3 base 3 .i64 b n D (.int .i64 k) (iLit k) u) (hm : a.eval m = .map (some b)) (hx : a.eval x = .int .i64 k) (hv : a.eval v = v')
    (hgr : w0.grownBy W u.ownBlock) (hown' : W.ownsInts base 3 .i64 v' zs') (hl' : zs'.length ≤ n + 1) (hloc : v'.ownBlock = u.ownBlock ∨ ∃ g, v'.ownBlock = some g ∧ w0.heap.size ≤ g)
    (hK : ∀ w2, w2.ownsGroups Try.prog 3 base 3 .i64 b (n + 1) (D.put (iLit k) (rowDatum .i64 v' zs')) → W.grownBy w2 (some b) → K (a.put o.dst undef) w2) :
    if Region.wanted o (yielded ops a.tmps) = true then Oper.wp Try.prog o a W K Q else K (a.put o.dst undef) W := by
  refine step_plain hg ?_
  obtain ⟨w2, hrun, r1, r2⟩ := hback W v' zs' hgr hown' hl' hloc
  unfold Oper.wp
  simp [execOp, hop, hm, hx, hv, hrun, Result.andThen, Oper.upon]
  exact hK w2 r1 r2
end
end Go.Proofs.Ytlkkdpmloeipjaa
