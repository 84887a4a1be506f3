/- A map of slices of spans (map[int][][2]int) of the call's own. -/
import Derived.Test.YtlkkdpmloeipjaaD6
import Derived.Test.YtlkkdpmloeipjaaD2
import Derived.Test.YtlkkdpmloeipjaaS2
import Derived.Maps.GroupsBeside
namespace Go.Proofs.Ytlkkdpmloeipjaa
open Go.RowKit Go.Proofs.YtlkkdpmloeipjaaW.PrintWords Go.Maps
open Go.ChangeShapes (lits)
set_option linter.unusedVariables false

/-- The cells of a row of spans. -/
def sps (ss : List Sp) : List Value := ss.flatMap (fun s => [.int .i64 s.lo, .int .i64 s.hi])
theorem sps_length (ss : List Sp) : (sps ss).length = ss.length * 2 := by
  induction ss with
  | nil => rfl
  | cons s ss ih => simp [sps] at ih ⊢; omega
theorem sps_append (a b : List Sp) : sps (a ++ b) = sps a ++ sps b := by simp [sps]
theorem sps_at : ∀ (ss : List Sp) (j : Nat) (s : Sp), ss[j]? = some s → (sps ss)[j * 2]? = some (.int .i64 s.lo) ∧ (sps ss)[j * 2 + 1]? = some (.int .i64 s.hi)
  | [], j, s, h => by simp at h
  | t :: ss, 0, s, h => by
    obtain rfl : t = s := Option.some.inj h
    exact ⟨rfl, rfl⟩
  | t :: ss, j + 1, s, h => by
    have ih := sps_at ss j s h
    show (([Value.int .i64 t.lo, .int .i64 t.hi] ++ sps ss)[(j + 1) * 2]? = _) ∧ (([Value.int .i64 t.lo, .int .i64 t.hi] ++ sps ss)[(j + 1) * 2 + 1]? = _)
    rw [List.getElem?_append_right (by simp; omega), List.getElem?_append_right (by simp; omega)]
    simp only [List.length_cons, List.length_nil]
    rw [show (j + 1) * 2 - 2 = j * 2 by omega, show (j + 1) * 2 + 1 - 2 = j * 2 + 1 by omega]
    exact ih
/-- A slice of the call's own, as a datum: where it lies. -/
def vElem (v : Value) : Option (DataW Unit × List MemPlace) := match v with
  | .slice none 0 0 => some (.nil, [])
  | .slice (some ⟨g, 0, none⟩) n cap => some (.slice (lits .i64 [(g : Int), (n : Int), (cap : Int)]) [], [])
  | _ => none
theorem vElem_nil : vElem (.slice none 0 0) = some (.nil, []) := rfl
theorem vElem_some (g n cap : Nat) : vElem (.slice (some ⟨g, 0, none⟩) n cap) = some (.slice (lits .i64 [(g : Int), (n : Int), (cap : Int)]) [], []) := rfl
theorem vElem_inv {v : Value} {d : DataW Unit} {ps : List MemPlace} (h : vElem v = some (d, ps)) : (v = .slice none 0 0 ∧ d = .nil) ∨ ∃ g n cap : Nat, v = .slice (some ⟨g, 0, none⟩) n cap ∧ d = .slice (lits .i64 [(g : Int), (n : Int), (cap : Int)]) [] := by
  unfold vElem at h
  split at h
  · injection h with h
    injection h with h _
    exact .inl ⟨rfl, h.symm⟩
  · injection h with h
    injection h with h _
    exact .inr ⟨_, _, _, rfl, h.symm⟩
  · cases h
theorem vElem_inj {v v' : Value} {d : DataW Unit} {ps ps' : List MemPlace} (h : vElem v = some (d, ps)) (h' : vElem v' = some (d, ps')) : v = v' := by
  rcases vElem_inv h with ⟨rfl, rfl⟩ | ⟨g, n, cap, rfl, rfl⟩ <;> rcases vElem_inv h' with ⟨rfl, e⟩ | ⟨g', n', cap', rfl, e⟩
  · rfl
  · cases e
  · cases e
  · injection e with e
    have e := lits_inj e
    simp only [List.cons.injEq, and_true] at e
    obtain ⟨e1, e2, e3⟩ := e
    rw [Int.ofNat_inj.1 e1, Int.ofNat_inj.1 e2, Int.ofNat_inj.1 e3]
theorem vElem_row {w : World} {base : Nat} {v : Value} {n : Nat} {xs : List Value} (h : w.ownsRow base 26 2 v n xs) : ∃ d, vElem v = some (d, []) := by
  rcases h.2 with ⟨rfl, _⟩ | ⟨g, cap, cur, rfl, _⟩
  · exact ⟨_, rfl⟩
  · exact ⟨_, rfl⟩
def updV (F : Int → Value) (k : Int) (v : Value) : Int → Value := fun q => if q = k then v else F q
theorem updV_same (F : Int → Value) (k : Int) (v : Value) : updV F k v k = v := if_pos rfl
theorem updV_other (F : Int → Value) {k q : Int} (h : q ≠ k) (v : Value) : updV F k v q = F q := if_neg h
def updS (g : Int → List Sp) (k : Int) (l : List Sp) : Int → List Sp := fun q => if q = k then l else g q
/-- Block b is a map of at most n entries, from int to slices of spans of the call's own from 'base' on, that holds g. -/
def SMap (w : World) (base b n : Nat) (g : Int → List Sp) : Prop := ∃ (D : DataW Unit) (F : Int → Value), w.ownsMap Try.prog 3 vElem b n D ∧ b < base ∧
  (∀ k, vElem (F k) = some (D.atKey (iLit k) .nil, [])) ∧ (∀ k, w.ownsRow base 26 2 (F k) (g k).length (sps (g k))) ∧ (∀ k q, k ≠ q → ∀ j, (F k).ownBlock = some j → (F q).ownBlock ≠ some j)
theorem SMap_made (w : World) : SMap (w.alloc (.map #[] 0)) (w.heap.size + 1) w.heap.size 0 (fun _ => []) :=
  ⟨_, fun _ => .slice none 0 0, World.ownsMap_made _ _ _ _, Nat.lt_succ_self _, fun _ => rfl, fun _ => World.ownsRow_nil _ _ _ _, fun _ _ _ _ h => by cases h⟩
theorem SMap.grown {w w1 : World} {base b n : Nat} {g : Int → List Sp} (h : SMap w base b n g) (hg : w.grownBy w1 none) : SMap w1 base b n g := by
  obtain ⟨D, F, h1, h2, h3, h4, h5⟩ := h
  exact ⟨D, F, h1.kept hg (by simp), h2, h3, fun k => (h4 k).kept hg (by cases (F k).ownBlock <;> simp), h5⟩
theorem SMap.mono {w : World} {base b n n' : Nat} {g : Int → List Sp} (h : SMap w base b n g) (hn : n ≤ n') : SMap w base b n' g := by
  obtain ⟨D, F, h1, h2⟩ := h
  exact ⟨D, F, h1.mono hn, h2⟩
/-- 'm[k]', and the way back. -/
theorem SMap.look {w : World} {base b n : Nat} {g : Int → List Sp} (h : SMap w base b n g) (k : Int) (hk : (Lit.int .i64 k).wf = true) (hn : n < maxLen) :
    ∃ v, (Instr.lookup 88 (.map (some b)) (.int .i64 k) false).run Try.prog w = .ok v w ∧ w.ownsRow base 26 2 v (g k).length (sps (g k)) ∧
      ∀ (W1 : World) (v' : Value) (s : Sp), w.grownBy W1 v.ownBlock → W1.ownsRow base 26 2 v' (g k ++ [s]).length (sps (g k ++ [s])) → (v'.ownBlock = v.ownBlock ∨ ∃ j, v'.ownBlock = some j ∧ w.heap.size ≤ j) →
        ∃ w2, (Instr.mapUpdate 88 (.map (some b)) (.int .i64 k) v').run Try.prog W1 = .ok () w2 ∧ SMap w2 base b (n + 1) (updS g k (g k ++ [s])) ∧ W1.grownBy w2 (some b) := by
  obtain ⟨D, F, h1, h2, h3, h4, h5⟩ := h
  have hkey := keyOf_int_mk Try.underlying3 hk
  obtain ⟨v, ps, hrun, hv⟩ := h1.lookup (e := 40) law_int Try.underlying88 (z := .slice none 0 0) (by kernel_rfl) vElem_nil hkey
  obtain rfl : v = F k := vElem_inj hv (h3 k)
  refine ⟨F k, hrun, h4 k, fun W1 v' s hg hr hl => ?_⟩
  have hbb : ∀ j, (F k).ownBlock = some j → base ≤ j := fun j hj => ((h4 k).lt j hj).1
  obtain ⟨d, hd⟩ := vElem_row hr
  obtain ⟨w2, hr2, ho2, hg2⟩ := (h1.kept hg (fun e => by have := hbb b e.symm; omega)).update law_int Try.underlying88 hn hkey hd
  refine ⟨w2, hr2, ⟨_, updV F k v', ho2, h2, fun q => ?_, fun q => ?_, ?_⟩, hg2⟩
  · have hm : IsMap D := by obtain ⟨es, clock, _, _, _, rfl⟩ := h1; exact ⟨_, rfl⟩
    by_cases hq : q = k
    · subst hq
      rw [updV_same, atKey_put_same hm (isKey_int q)]
      exact hd
    · rw [updV_other _ hq, atKey_put_other (iLit_ne hq)]
      exact h3 q
  · unfold updS
    by_cases hq : q = k
    · subst hq
      rw [updV_same, if_pos rfl]
      refine hr.kept hg2 (.inr (fun e => ?_))
      have := (hr.lt b e).1
      omega
    · rw [updV_other _ hq, if_neg hq]
      have ha : w.grownBy W1 (F k).ownBlock := hg
      have hb : W1.ownsRow base 26 2 (F q) (g q).length (sps (g q)) := by
        refine (h4 q).kept ha ?_
        cases hj : (F q).ownBlock with
        | none => exact .inl rfl
        | some j => exact .inr (fun e => h5 k q (Ne.symm hq) j e.symm hj)
      refine hb.kept hg2 (.inr (fun e => ?_))
      have := (hb.lt b e).1
      omega
  · -- no two keys' slices in one row
    have hv' : ∀ q, q ≠ k → ∀ j, v'.ownBlock = some j → (F q).ownBlock ≠ some j := by
      intro q hq j hj he
      rcases hl with hl | ⟨i, hi, hw⟩
      · exact h5 k q (Ne.symm hq) j (hl ▸ hj) he
      · rw [hi] at hj
        injection hj with hj
        have := ((h4 q).lt j he).2
        omega
    intro a q haq j hj he
    by_cases h6 : a = k
    · subst h6
      rw [updV_same] at hj
      rw [updV_other _ (Ne.symm haq)] at he
      exact hv' q (Ne.symm haq) j hj he
    · rw [updV_other _ h6] at hj
      by_cases h7 : q = k
      · subst h7
        rw [updV_same] at he
        exact hv' a h6 j he hj
      · rw [updV_other _ h7] at he
        exact h5 a q haq j hj he
/-- A row of spans of the call's own, as it is read. -/
theorem rowS_reads {w : World} {base : Nat} {v : Value} {ss : List Sp} (h : w.ownsRow base 26 2 v ss.length (sps ss)) : ∃ A c, v = .slice A ss.length c ∧ Kd.C kSp w A ss.length ss := by
  obtain ⟨hl, h1⟩ := h
  rcases h1 with ⟨rfl, h0⟩ | ⟨g, cap, cur, rfl, hb, hh, hnc, hcap, hsz, htk⟩
  · obtain rfl : ss = [] := List.eq_nil_of_length_eq_zero h0
    exact ⟨none, 0, rfl, Kd.C_nil _ _⟩
  · refine ⟨some ⟨g, 0, none⟩, cap, rfl, rfl, by unfold maxLen at hcap; omega, fun hne => ⟨_, rfl, fun j p hj => ⟨[.int .i64 p.lo, .int .i64 p.hi], rfl, kSp_mk w p, fun i u hi => ?_⟩⟩⟩
    have hjl := (List.getElem?_eq_some_iff.1 hj).1
    obtain ⟨e1, e2⟩ := sps_at ss j p hj
    rw [add_plain]
    match i, hi with
    | 0, hi =>
      obtain rfl : Value.int .i64 p.lo = u := Option.some.inj hi
      show w.cell? ⟨g, j * 2 + 0, none⟩ = _
      rw [← htk, List.getElem?_take_of_lt (by omega), Array.getElem?_toList] at e1
      exact (blk_cell hh (j * 2)).trans e1
    | 1, hi =>
      obtain rfl : Value.int .i64 p.hi = u := Option.some.inj hi
      show w.cell? ⟨g, j * 2 + 1, none⟩ = _
      rw [← htk, List.getElem?_take_of_lt (by omega), Array.getElem?_toList] at e2
      exact (blk_cell hh (j * 2 + 1)).trans e2
    | i + 2, hi => simp at hi

section
variable {ops : Array Oper} {o : Oper} {a : Act} {Q : Exit → Act → World → Prop} {K : Act → World → Prop} {W : World}
/-- append(v, s) of one span, as one step of a region that draws its order. -/
theorem step_appendS (hg : o.guard = none) (s x : Operand) (ho : o.op = .call { callee := .builtin .append, args := #[s, x], argTypes := #[40, 40] })
    (base : Nat) (v : Value) (zs : List Sp) (r : Sp) (g c : Nat) (hs : a.eval s = v) (hx : a.eval x = .slice (some ⟨g, 0, none⟩) 1 c) (hown : W.ownsRow base 26 2 v zs.length (sps zs))
    (hb : W.heap[g]? = some (.cells #[.int .i64 r.lo, .int .i64 r.hi] 26 (0, 0))) (hl : zs.length ≤ 1000000) (hbase : base ≤ W.heap.size)
    (h : ∀ v' w', w'.ownsRow base 26 2 v' (zs ++ [r]).length (sps (zs ++ [r])) → W.grownBy w' v.ownBlock → (v'.ownBlock = v.ownBlock ∨ v'.ownBlock = some W.heap.size) → K (a.put o.dst v') w') :
    if Region.wanted o (yielded ops a.tmps) = true then Oper.wp Try.prog o a W K Q else K (a.put o.dst undef) W := by
  refine step_plain hg ?_
  obtain ⟨i0, hi, hz0, hz1, hz2⟩ := info_parts info26
  obtain ⟨v', w', hrun, h2, h3, h4, h5⟩ := run_append_own_at (P := Try.prog) W base 40 o.type 26 i0 (.agg #[.int .i64 0, .int .i64 0]) 2 16 Try.underlying40 hi hz0 hz1 hz2 rfl (by decide) v zs.length (sps zs) hown ⟨g, 0, none⟩ 1 c [.int .i64 r.lo, .int .i64 r.hi] rfl
    (fun j u hj => by
      match j, hj with
      | 0, hj =>
        obtain rfl : Value.int .i64 r.lo = u := Option.some.inj hj
        exact blk_cell hb 0
      | 1, hj =>
        obtain rfl : Value.int .i64 r.hi = u := Option.some.inj hj
        exact blk_cell hb 1
      | j + 2, hj => simp at hj) (fun u hu => by simp only [List.mem_cons, List.not_mem_nil, or_false] at hu; rcases hu with rfl | rfl <;> rfl) (by unfold maxLen; omega) (by omega) hbase
  have h6 : w'.ownsRow base 26 2 v' (zs ++ [r]).length (sps (zs ++ [r])) := by
    rw [sps_append, List.length_append]
    exact h2
  unfold Oper.wp execOp
  simp only [ho, resolve, invoke, builtin, Sem.run_bind, Sem.run_pure, Result.andThen_ok, List.map_toArray, List.map_cons, List.map_nil, hs, hx, hrun]
  exact h v' w' h6 h3 h5
end
end Go.Proofs.Ytlkkdpmloeipjaa
