/- place.Places: no more slots than registers; none, where none are needed. No program in sight. -/
import Derived.Test.YtlkkdpmloeipjaaG1
namespace Go.Proofs.Ytlkkdpmloeipjaa
open Go.RowKit Go.Proofs.YtlkkdpmloeipjaaW.PrintWords
set_option linter.unusedVariables false

theorem sub_len : ∀ (xs L : List Nat), xs.Pairwise (· ≠ ·) → (∀ x ∈ xs, x ∈ L) → xs.length ≤ L.length
  | [], L, _, _ => Nat.zero_le _
  | x :: xs, L, hp, hm => by
    obtain ⟨h1, h2⟩ := List.pairwise_cons.1 hp
    have hx := hm x (List.mem_cons_self ..)
    have ih := sub_len xs (L.erase x) h2 (fun y hy => (List.mem_erase_of_ne (fun e => h1 y hy e.symm)).2 (hm y (List.mem_cons_of_mem _ hy)))
    rw [List.length_erase_of_mem hx] at ih
    have : 0 < L.length := List.length_pos_of_mem hx
    rw [List.length_cons]
    omega
theorem filter_or {p q r : Nat → Bool} (hpq : ∀ x, p x = true → q x = true → False) (hr : ∀ x, r x = (p x || q x)) : ∀ L : List Nat, (L.filter r).length = (L.filter p).length + (L.filter q).length
  | [] => rfl
  | x :: L => by
    have ih := filter_or hpq hr L
    rw [List.filter_cons, List.filter_cons, List.filter_cons, hr x]
    cases hp : p x <;> cases hq : q x
    · simpa using ih
    · simp; omega
    · simp; omega
    · exact absurd hq (fun h => hpq x hp h)
theorem plTo_count (c : Code) {S : List Sp} {n : Nat} (hlo : ∀ r, r < n → -1 ≤ (sp S r).lo) : ∀ k, (plTo c S n k).cnt = ((List.range n).filter (fun r => decide ((sp S r).lo < (sp S r).hi ∧ (sp S r).lo ≤ (k : Int) - 2))).length
  | 0 => by
    have : (List.range n).filter (fun r => decide ((sp S r).lo < (sp S r).hi ∧ (sp S r).lo ≤ ((0 : Nat) : Int) - 2)) = [] := List.filter_eq_nil_iff.2 (fun r hr => by
      have := hlo r (List.mem_range.1 hr)
      rw [decide_eq_true_eq]
      omega)
    rw [this]
    rfl
  | k + 1 => by
    have ih := plTo_count c hlo k
    show (plAt c S n _ (plTo c S n k)).cnt = _
    unfold plAt
    rw [plFold_cnt]
    show (plTo c S n k).cnt + _ = _
    rw [ih]
    unfold begL
    refine (filter_or (fun r h1 h2 => ?_) (fun r => ?_) _).symm
    · rw [decide_eq_true_eq] at h1 h2
      have e1 : (sp S r).lo ≤ (k : Int) - 2 := h1.2
      have e2 : (sp S r).lo = (k : Int) - 1 := h2.1
      omega
    · rw [Bool.eq_iff_iff, Bool.or_eq_true, decide_eq_true_eq, decide_eq_true_eq, decide_eq_true_eq]
      have hl := hlo
      show (sp S r).lo < (sp S r).hi ∧ (sp S r).lo ≤ ((k + 1 : Nat) : Int) - 2 ↔ ((sp S r).lo < (sp S r).hi ∧ (sp S r).lo ≤ (k : Int) - 2) ∨ ((sp S r).lo = (k : Int) - 1 ∧ (sp S r).lo < (sp S r).hi)
      generalize (sp S r).lo = a
      generalize (sp S r).hi = b
      omega
/-- No more slots than registers. -/
theorem slots_le {c : Code} (hb : (rightE c).1 = 0) : (placesE c).2.1 ≤ c.regs := by
  have hi := (places_inv hb).ok.slots1
  have hc := plTo_count c (S := spansE c) (n := c.regs.toNat) (fun r hr => (span_lo hb (by omega)).1) (c.l.length + 1)
  have hl := List.length_filter_le (fun r => decide ((sp (spansE c) r).lo < (sp (spansE c) r).hi ∧ (sp (spansE c) r).lo ≤ ((c.l.length + 1 : Nat) : Int) - 2)) (List.range c.regs.toNat)
  rw [← hc, List.length_range] at hl
  have hr := (formB_cells (right_facts hb).1).2.2.1
  unfold placesE
  rw [if_pos hb]
  show (plTo c (spansE c) c.regs.toNat (c.l.length + 1)).slots ≤ _
  omega
/-- How many of the first k registers are in use at a place. -/
def covTo (S : List Sp) (i : Int) (k : Nat) : Nat := ((List.range k).filter (fun r => decide ((sp S r).lo < i ∧ i ≤ (sp S r).hi))).length
theorem covTo_succ (S : List Sp) (i : Int) (k : Nat) : covTo S i (k + 1) = covTo S i k + if (sp S k).lo < i ∧ i ≤ (sp S k).hi then 1 else 0 := by
  unfold covTo
  rw [List.range_succ, List.filter_append, List.length_append]
  by_cases h : (sp S k).lo < i ∧ i ≤ (sp S k).hi
  · rw [if_pos h, List.filter_cons, if_pos (decide_eq_true h)]
    rfl
  · rw [if_neg h, List.filter_cons, if_neg (by rw [decide_eq_false h]; decide)]
    rfl
theorem covTo_le (S : List Sp) (i : Int) (k : Nat) : covTo S i k ≤ k := by
  have := List.length_filter_le (fun r => decide ((sp S r).lo < i ∧ i ≤ (sp S r).hi)) (List.range k)
  rw [List.length_range] at this
  exact this
/-- Are no slots needed? -/
structure EasyOk (c : Code) (S : List Sp) (n : Nat) : Prop where
  calls : ∀ r, r < n → callsB c (sp S r) = false
  cov : ∀ i : Nat, i ≤ c.l.length → covTo S i n ≤ 5
theorem one_low {c : Code} {S : List Sp} {n : Nat} {P : Nat → Prop} {at_ : Int} {s : PlSt} (h : Inv c S n P at_ s) {r : Nat} (hr : r < n) (hlo : (sp S r).lo = at_) (hlt : (sp S r).lo < (sp S r).hi) (hn : ¬ P r) (hc : callsB c (sp S r) = false) (hcov : covTo S (at_ + 1) n ≤ 5) :
    firstFree s.busy (5 + s.cnt) (baseP c (sp S r)) ≤ 7 := by
  have hb : baseP c (sp S r) = 3 := if_neg (by rw [hc]; decide)
  rw [hb]
  have key : ∀ q : Int, 3 ≤ q → q ≤ 7 → ¬ firstFree s.busy (5 + s.cnt) 3 ≤ 7 → ∃ x, P x ∧ ou s x = q ∧ at_ < (sp S x).hi := by
    intro q h3 h7 hcon
    cases hf : s.busy q with
    | none => exact absurd (free_upto hf (5 + s.cnt) 3 h3) (by omega)
    | some e =>
      obtain ⟨x, hx, h1, h2⟩ := h.who q e hf
      exact ⟨x, hx, h1, by rw [← h2]; exact h.fresh q e hf⟩
  refine Decidable.byContradiction (fun hcon => ?_)
  obtain ⟨a, ha, ea, la⟩ := key 3 (by omega) (by omega) hcon
  obtain ⟨b, hb', eb, lb⟩ := key 4 (by omega) (by omega) hcon
  obtain ⟨d, hd, ed, ld⟩ := key 5 (by omega) (by omega) hcon
  obtain ⟨e, he, ee, le⟩ := key 6 (by omega) (by omega) hcon
  obtain ⟨f, hf, ef, lf⟩ := key 7 (by omega) (by omega) hcon
  have hne : ∀ {x y : Nat}, ou s x ≠ ou s y → x ≠ y := fun h e => h (by rw [e])
  have hnr : ∀ {x : Nat}, P x → r ≠ x := fun hx e => hn (e ▸ hx)
  have hlen := sub_len [r, a, b, d, e, f] ((List.range n).filter (fun r => decide ((sp S r).lo < at_ + 1 ∧ at_ + 1 ≤ (sp S r).hi))) (by
    simp only [List.pairwise_cons, List.mem_cons, List.not_mem_nil, or_false, forall_eq_or_imp, forall_eq, List.Pairwise.nil, and_true]
    refine ⟨⟨hnr ha, hnr hb', hnr hd, hnr he, hnr hf⟩, ⟨hne (by omega), hne (by omega), hne (by omega), hne (by omega)⟩, ⟨hne (by omega), hne (by omega), hne (by omega)⟩, ⟨hne (by omega), hne (by omega)⟩, hne (by omega), ?_⟩
    intro x hx
    cases hx) (by
    intro x hx
    rw [List.mem_filter, List.mem_range, decide_eq_true_eq]
    have hpl : ∀ {x : Nat}, P x → at_ < (sp S x).hi → x < n ∧ (sp S x).lo < at_ + 1 ∧ at_ + 1 ≤ (sp S x).hi := fun hx hl => by
      have := h.placed _ hx
      exact ⟨this.1, by omega, by omega⟩
    simp only [List.mem_cons, List.not_mem_nil, or_false] at hx
    rcases hx with rfl | rfl | rfl | rfl | rfl | rfl
    · exact ⟨hr, by omega, by omega⟩
    · exact hpl ha la
    · exact hpl hb' lb
    · exact hpl hd ld
    · exact hpl he le
    · exact hpl hf lf)
  unfold covTo at hcov
  simp only [List.length_cons, List.length_nil] at hlen
  omega
theorem fold_low {c : Code} {S : List Sp} {n : Nat} {at_ : Int} (hcov : covTo S (at_ + 1) n ≤ 5) : ∀ (rs : List Nat) (P : Nat → Prop) (s : PlSt), Inv c S n P at_ s → rs.Pairwise (· ≠ ·) → (∀ r ∈ rs, r < n ∧ (sp S r).lo = at_ ∧ (sp S r).lo < (sp S r).hi ∧ ¬ P r ∧ callsB c (sp S r) = false) → s.slots = 0 → (rs.foldl (plOne c S) s).slots = 0
  | [], P, s, h, _, _, h0 => h0
  | r :: rs, P, s, h, hp, hr, h0 => by
    obtain ⟨hp1, hp2⟩ := List.pairwise_cons.1 hp
    obtain ⟨h1, h2, h3, h4, h5⟩ := hr r (List.mem_cons_self ..)
    have hl := one_low h h1 h2 h3 h4 h5 hcov
    rw [List.foldl_cons]
    refine fold_low hcov rs _ _ (h.one h1 h2 h3 h4) hp2 (fun q hq => ?_) ?_
    · obtain ⟨k1, k2, k3, k4, k5⟩ := hr q (List.mem_cons_of_mem _ hq)
      exact ⟨k1, k2, k3, fun e => e.elim k4 (fun e => hp1 q hq e.symm), k5⟩
    · show max s.slots (firstFree s.busy (5 + s.cnt) (baseP c (sp S r)) + 1 - 8) = 0
      omega
theorem plTo_low {c : Code} {S : List Sp} {n : Nat} (hlo : ∀ r, r < n → -1 ≤ (sp S r).lo) (he : EasyOk c S n) : ∀ k, k ≤ c.l.length + 1 → (plTo c S n k).slots = 0
  | 0, _ => rfl
  | k + 1, hk => by
    have ih := plTo_low hlo he k (by omega)
    have h1 := (plTo_inv c hlo k).drop (b := (k : Int) - 1) (by omega)
    refine fold_low (at_ := (k : Int) - 1) ?_ (begL S n ((k : Int) - 1)) _ _ h1 (begL_apart _ _ _) (fun r hr => ?_) ih
    · have := he.cov k (by omega)
      rwa [show (k : Int) - 1 + 1 = k by omega]
    · obtain ⟨a, b, d⟩ := mem_begL.1 hr
      exact ⟨a, b, d, fun e => by have := e.2.2; omega, he.calls r a⟩
theorem easy_slots {c : Code} (hb : (rightE c).1 = 0) (he : EasyOk c (spansE c) c.regs.toNat) : (placesE c).2.1 = 0 := by
  unfold placesE
  rw [if_pos hb]
  exact plTo_low (fun r hr => (span_lo hb (by omega)).1) he _ (Nat.le_refl _)
end Go.Proofs.Ytlkkdpmloeipjaa
