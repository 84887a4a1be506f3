/- place.Places: the places that it tells may be so; how many slots there are. No program in sight. -/
import Derived.Test.YtlkkdpmloeipjaaF2
import Derived.Test.YtlkkdpmloeipjaaSB
namespace Go.Proofs.Ytlkkdpmloeipjaa
open Go.RowKit Go.Proofs.YtlkkdpmloeipjaaW.PrintWords
set_option linter.unusedVariables false

theorem free_is {f : Int → Option Int} {B : Int} (hB : ∀ q, B ≤ q → f q = none) : ∀ (m : Nat) (p : Int), B ≤ p + m → f (firstFree f m p) = none
  | 0, p, h => hB p (by simpa using h)
  | m + 1, p, h => by
    unfold firstFree
    split
    · exact free_is hB m (p + 1) (by omega)
    · rename_i hs
      cases hf : f p with
      | none => rfl
      | some e => rw [hf] at hs; simp at hs
theorem free_upto {f : Int → Option Int} {q : Int} (hq : f q = none) : ∀ (m : Nat) (p : Int), p ≤ q → firstFree f m p ≤ q
  | 0, p, h => h
  | m + 1, p, h => by
    unfold firstFree
    split
    · rename_i hs
      by_cases e : p = q
      · subst e
        rw [hq] at hs
        cases hs
      · exact free_upto hq m (p + 1) (by omega)
    · exact h
abbrev sp (S : List Sp) (r : Nat) : Sp := S.getD r zSp
abbrev ou (s : PlSt) (r : Nat) : Int := s.out.getD r 0
/-- What holds while registers are placed: P tells who has been. -/
structure Inv (c : Code) (S : List Sp) (n : Nat) (P : Nat → Prop) (at_ : Int) (s : PlSt) : Prop where
  ok : PlOk n s
  placed : ∀ r, P r → r < n ∧ (sp S r).lo < (sp S r).hi ∧ (sp S r).lo ≤ at_
  busy : ∀ r, P r → at_ < (sp S r).hi → s.busy (ou s r) = some (sp S r).hi
  who : ∀ q e, s.busy q = some e → ∃ r, P r ∧ ou s r = q ∧ e = (sp S r).hi
  fresh : ∀ q e, s.busy q = some e → at_ < e
  apart : ∀ r q, P r → P q → r ≠ q → ou s r = ou s q → meetB (sp S r) (sp S q) = false
  lo : ∀ r, P r → 3 ≤ ou s r ∧ ou s r + 1 - 8 ≤ s.slots ∧ (callsB c (sp S r) = true → 8 ≤ ou s r)
  rest : ∀ r, r < n → ¬ P r → ou s r = 3
theorem Inv.congr {c : Code} {S : List Sp} {n : Nat} {P P' : Nat → Prop} {at_ : Int} {s : PlSt} (h : Inv c S n P at_ s) (hp : ∀ r, P r ↔ P' r) : Inv c S n P' at_ s := by
  obtain rfl : P = P' := funext fun r => propext (hp r)
  exact h
theorem Inv.drop {c : Code} {S : List Sp} {n : Nat} {P : Nat → Prop} {a b : Int} {s : PlSt} (h : Inv c S n P a s) (hab : a ≤ b) : Inv c S n P b { s with busy := dropF s.busy b } := by
  refine ⟨h.ok.drop b, fun r hr => ?_, fun r hr hb => ?_, fun q e he => ?_, fun q e he => ?_, h.apart, h.lo, h.rest⟩
  · have := h.placed r hr
    exact ⟨this.1, this.2.1, by omega⟩
  · show dropF s.busy b (ou s r) = _
    unfold dropF
    rw [h.busy r hr (by omega)]
    simp only
    rw [if_neg (by omega)]
  · have he : dropF s.busy b q = some e := he
    unfold dropF at he
    cases hf : s.busy q with
    | none => rw [hf] at he; cases he
    | some e' =>
      rw [hf] at he
      simp only at he
      split at he
      · cases he
      · injection he with he
        subst he
        exact h.who q e' hf
  · have he : dropF s.busy b q = some e := he
    unfold dropF at he
    cases hf : s.busy q with
    | none => rw [hf] at he; cases he
    | some e' =>
      rw [hf] at he
      simp only at he
      split at he
      · cases he
      · injection he with he
        omega
theorem meetB_far {a b : Sp} (h : a.hi ≤ b.lo) : meetB a b = false := by
  unfold meetB
  have : ¬ b.lo < a.hi := by omega
  simp [this]
theorem meetB_symm (a b : Sp) : meetB a b = meetB b a := by
  unfold meetB
  rw [Bool.eq_iff_iff]
  simp only [Bool.and_eq_true, decide_eq_true_eq]
  constructor
  · rintro ⟨⟨⟨h1, h2⟩, h3⟩, h4⟩; exact ⟨⟨⟨h2, h1⟩, h4⟩, h3⟩
  · rintro ⟨⟨⟨h1, h2⟩, h3⟩, h4⟩; exact ⟨⟨⟨h2, h1⟩, h4⟩, h3⟩
theorem meetB_none {a : Sp} (h : ¬ a.lo < a.hi) (b : Sp) : meetB a b = false := by
  unfold meetB
  simp [h]
/-- The place that a register gets. -/
theorem one_free {n : Nat} {s : PlSt} (h : PlOk n s) (c : Code) (t : Sp) : s.busy (firstFree s.busy (5 + s.cnt) (baseP c t)) = none := by
  have hb := baseP_cases c t
  exact free_is h.busy (5 + s.cnt) (baseP c t) (by omega)
theorem Inv.one {c : Code} {S : List Sp} {n : Nat} {P : Nat → Prop} {at_ : Int} {s : PlSt} (h : Inv c S n P at_ s) {r : Nat} (hr : r < n) (hlo : (sp S r).lo = at_) (hlt : (sp S r).lo < (sp S r).hi) (hn : ¬ P r) : Inv c S n (fun q => P q ∨ q = r) at_ (plOne c S s r) := by
  have hfree := one_free h.ok c (sp S r)
  have hge := (firstFree_le s.busy (5 + s.cnt) (baseP c (sp S r))).1
  have hb := baseP_cases c (sp S r)
  have hlen := h.ok.len
  obtain ⟨p, hp⟩ : ∃ p, p = firstFree s.busy (5 + s.cnt) (baseP c (sp S r)) := ⟨_, rfl⟩
  rw [← hp] at hfree hge
  have e1 : ou (plOne c S s r) r = p := by
    show (s.out.set r _).getD r 0 = p
    rw [← hp, List.getD_eq_getElem?_getD, List.getElem?_set_self (by omega)]
    rfl
  have e2 : ∀ q, q ≠ r → ou (plOne c S s r) q = ou s q := by
    intro q hq
    show (s.out.set r _).getD q 0 = s.out.getD q 0
    rw [List.getD_eq_getElem?_getD, List.getElem?_set_ne (Ne.symm hq), List.getD_eq_getElem?_getD]
  have e3 : ∀ q, (plOne c S s r).busy q = if q = p then some (sp S r).hi else s.busy q := by
    intro q
    show updF s.busy _ _ q = _
    rw [← hp]
    rfl
  have e4 : (plOne c S s r).slots = max s.slots (p + 1 - 8) := by show max s.slots _ = _; rw [← hp]
  have hcl : callsB c (sp S r) = true → 8 ≤ p := by
    intro hc
    have : baseP c (sp S r) = 8 := if_pos hc
    omega
  have hne : ∀ q, P q → at_ < (sp S q).hi → ou s q ≠ p := by
    intro q hq hl e
    have := h.busy q hq hl
    rw [e, hfree] at this
    cases this
  refine ⟨h.ok.one c S r, fun q hq => ?_, fun q hq hl => ?_, fun q e he => ?_, fun q e he => ?_, ?_, fun q hq => ?_, fun q hq hnq => ?_⟩
  · rcases hq with hq | rfl
    · exact h.placed q hq
    · exact ⟨hr, hlt, by omega⟩
  · rw [e3]
    by_cases hqr : q = r
    · subst hqr
      rw [e1, if_pos rfl]
    · rcases hq with hq | hq
      · rw [e2 q hqr, if_neg (hne q hq hl)]
        exact h.busy q hq hl
      · exact absurd hq hqr
  · rw [e3] at he
    by_cases hqp : q = p
    · rw [if_pos hqp] at he
      injection he with he
      exact ⟨r, .inr rfl, by rw [e1, hqp], he.symm⟩
    · rw [if_neg hqp] at he
      obtain ⟨x, hx, h1, h2⟩ := h.who q e he
      exact ⟨x, .inl hx, by rw [e2 x (fun e => hn (e ▸ hx))]; exact h1, h2⟩
  · rw [e3] at he
    by_cases hqp : q = p
    · rw [if_pos hqp] at he
      injection he with he
      omega
    · rw [if_neg hqp] at he
      exact h.fresh q e he
  · -- no two in one place that meet
    have key : ∀ q, P q → ou s q = p → meetB (sp S q) (sp S r) = false := by
      intro q hq e
      refine meetB_far ?_
      by_cases hl : at_ < (sp S q).hi
      · exact absurd e (hne q hq hl)
      · omega
    intro a b ha hb hab he
    by_cases har : a = r
    · subst har
      have hbr : b ≠ a := Ne.symm hab
      rcases hb with hb | hb
      · rw [e1, e2 b hbr] at he
        rw [meetB_symm]
        exact key b hb he.symm
      · exact absurd hb hbr
    · rcases ha with ha | ha
      · by_cases hbr : b = r
        · subst hbr
          rw [e1, e2 a har] at he
          exact key a ha he
        · rcases hb with hb | hb
          · rw [e2 a har, e2 b hbr] at he
            exact h.apart a b ha hb hab he
          · exact absurd hb hbr
      · exact absurd ha har
  · rw [e4]
    by_cases hqr : q = r
    · subst hqr
      rw [e1]
      exact ⟨by omega, by omega, hcl⟩
    · rcases hq with hq | hq
      · rw [e2 q hqr]
        have := h.lo q hq
        exact ⟨this.1, by omega, this.2.2⟩
      · exact absurd hq hqr
  · have hqr : q ≠ r := fun e => hnq (.inr e)
    rw [e2 q hqr]
    exact h.rest q hq (fun e => hnq (.inl e))
theorem Inv.fold {c : Code} {S : List Sp} {n : Nat} {at_ : Int} : ∀ (rs : List Nat) (P : Nat → Prop) (s : PlSt), Inv c S n P at_ s → rs.Pairwise (· ≠ ·) → (∀ r ∈ rs, r < n ∧ (sp S r).lo = at_ ∧ (sp S r).lo < (sp S r).hi ∧ ¬ P r) → Inv c S n (fun q => P q ∨ q ∈ rs) at_ (rs.foldl (plOne c S) s)
  | [], P, s, h, _, _ => h.congr (fun r => by simp)
  | r :: rs, P, s, h, hp, hr => by
    obtain ⟨hp1, hp2⟩ := List.pairwise_cons.1 hp
    obtain ⟨h1, h2, h3, h4⟩ := hr r (List.mem_cons_self ..)
    have := Inv.fold rs _ _ (h.one h1 h2 h3 h4) hp2 (fun q hq => by
      obtain ⟨k1, k2, k3, k4⟩ := hr q (List.mem_cons_of_mem _ hq)
      exact ⟨k1, k2, k3, fun e => e.elim k4 (fun e => hp1 q hq e.symm)⟩)
    rw [List.foldl_cons]
    refine this.congr (fun q => ?_)
    rw [List.mem_cons]
    constructor
    · rintro ((h | h) | h)
      · exact .inl h
      · exact .inr (.inl h)
      · exact .inr (.inr h)
    · rintro (h | h | h)
      · exact .inl (.inl h)
      · exact .inl (.inr h)
      · exact .inr h
theorem mem_begL {S : List Sp} {n : Nat} {at_ : Int} {r : Nat} : r ∈ begL S n at_ ↔ r < n ∧ (sp S r).lo = at_ ∧ (sp S r).lo < (sp S r).hi := by
  unfold begL
  rw [List.mem_filter, List.mem_range, decide_eq_true_eq]
theorem begL_apart (S : List Sp) (n : Nat) (at_ : Int) : (begL S n at_).Pairwise (· ≠ ·) := by
  unfold begL
  exact (List.Pairwise.imp (fun h => Nat.ne_of_lt h) List.pairwise_lt_range).filter _
/-- Who has been placed behind k steps. -/
def PkOf (S : List Sp) (n k : Nat) (r : Nat) : Prop := r < n ∧ (sp S r).lo < (sp S r).hi ∧ (sp S r).lo ≤ (k : Int) - 2
theorem plTo_inv (c : Code) {S : List Sp} {n : Nat} (hlo : ∀ r, r < n → -1 ≤ (sp S r).lo) : ∀ k, Inv c S n (PkOf S n k) ((k : Int) - 2) (plTo c S n k)
  | 0 => by
    have hno : ∀ r, ¬ PkOf S n 0 r := fun r h => by have h1 := hlo r h.1; have h2 := h.2.2; omega
    refine ⟨PlOk.start n, fun r h => absurd h (hno r), fun r h => absurd h (hno r), fun q e h => (by cases h), fun q e h => (by cases h), fun r q h => absurd h (hno r), fun r h => absurd h (hno r), fun r hr _ => ?_⟩
    show (List.replicate n (3 : Int)).getD r 0 = 3
    rw [List.getD_eq_getElem?_getD, List.getElem?_replicate, if_pos hr]
    rfl
  | k + 1 => by
    have ih := plTo_inv c hlo k
    have h1 := ih.drop (b := (k : Int) - 1) (by omega)
    have h2 := Inv.fold (begL S n ((k : Int) - 1)) _ _ h1 (begL_apart _ _ _) (fun r hr => by
      obtain ⟨a, b, d⟩ := mem_begL.1 hr
      exact ⟨a, b, d, fun e => by have := e.2.2; omega⟩)
    have e : ((k + 1 : Nat) : Int) - 2 = (k : Int) - 1 := by omega
    rw [e]
    refine h2.congr (fun r => ?_)
    rw [mem_begL]
    unfold PkOf
    rw [e]
    constructor
    · rintro (⟨a, b, d⟩ | ⟨a, b, d⟩)
      · exact ⟨a, b, by omega⟩
      · exact ⟨a, d, by omega⟩
    · rintro ⟨a, b, d⟩
      by_cases hh : (sp S r).lo ≤ (k : Int) - 2
      · exact .inl ⟨a, b, hh⟩
      · exact .inr ⟨a, by omega, b⟩

/-! What Check asks. -/
theorem gAt_mem {E : List Sp} {l : List Int} : ∀ (r : Nat) (p : Int) (t : Sp), t ∈ gAt E l r p → ∃ k, k < r ∧ l.getD k 0 = p ∧ t = E.getD k zSp
  | 0, p, t, h => by simp [gAt] at h
  | r + 1, p, t, h => by
    unfold gAt updS at h
    split at h
    · rename_i e
      rcases List.mem_append.1 h with h | h
      · obtain ⟨k, h1, h2, h3⟩ := gAt_mem r _ t h
        exact ⟨k, by omega, by rw [h2, e], h3⟩
      · exact ⟨r, by omega, e.symm, List.mem_singleton.1 h⟩
    · obtain ⟨k, h1, h2, h3⟩ := gAt_mem r _ t h
      exact ⟨k, by omega, h2, h3⟩
theorem chk_true {c : Code} {E : List Sp} {l : List Int} {slots : Int} : ∀ n, (∀ r, r < n → okAt c slots (gAt E l r) (l.getD r 0) (E.getD r zSp) = true) → chkTo c E l slots n = true
  | 0, _ => rfl
  | n + 1, h => by
    unfold chkTo
    rw [chk_true n (fun r hr => h r (by omega)), h n (by omega)]
    rfl
theorem check_true {c : Code} {l : List Int} {slots : Int} (hb : (rightE c).1 = 0) (hl : (l.length : Int) = c.regs) (hs : 0 ≤ slots)
    (h1 : ∀ r, r < l.length → 3 ≤ l.getD r 0 ∧ l.getD r 0 - 8 < slots ∧ (callsB c (sp (spansE c) r) = true → 8 ≤ l.getD r 0))
    (h2 : ∀ r k, k < r → r < l.length → l.getD k 0 = l.getD r 0 → meetB (sp (spansE c) k) (sp (spansE c) r) = false) : checkE c l slots = true := by
  unfold checkE
  rw [if_pos ⟨hb, hl, hs⟩]
  refine chk_true _ (fun r hr => ?_)
  obtain ⟨a, b, d⟩ := h1 r hr
  unfold okAt
  have e1 : decide (l.getD r 0 < 3) = false := decide_eq_false (by omega)
  have e2 : decide (slots ≤ l.getD r 0 - 8) = false := decide_eq_false (by omega)
  have e3 : (callsB c ((spansE c).getD r zSp) && decide (l.getD r 0 < 8)) = false := by
    cases hc : callsB c ((spansE c).getD r zSp)
    · rfl
    · rw [decide_eq_false (by have := d hc; omega)]; rfl
  rw [e1, e2, e3]
  show (true && _) = true
  rw [Bool.true_and]
  refine List.all_eq_true.2 (fun t ht => ?_)
  obtain ⟨k, hk, hkl, rfl⟩ := gAt_mem r _ t ht
  rw [h2 r k hk hr hkl]
  rfl
theorem calls_none {c : Code} {s : Sp} (h : ¬ s.lo < s.hi) : callsB c s = false := by
  cases hc : callsB c s
  · rfl
  · simp only [callsB, callsTo, List.any_eq_true, List.mem_range] at hc
    obtain ⟨i, hi, hx⟩ := hc
    rw [List.getElem?_eq_getElem hi] at hx
    simp only [callAt, decide_eq_true_eq] at hx
    omega
/-- What the places obey. -/
structure PlaceOk (c : Code) (n : Nat) (l : List Int) (slots : Int) : Prop where
  len : l.length = n
  slots0 : 0 ≤ slots
  at_ : ∀ r, r < n → 3 ≤ l.getD r 0 ∧ l.getD r 0 - 8 < slots ∧ (callsB c (sp (spansE c) r) = true → 8 ≤ l.getD r 0)
  apart : ∀ r k, k < r → r < n → l.getD k 0 = l.getD r 0 → meetB (sp (spansE c) k) (sp (spansE c) r) = false
theorem span_lo {c : Code} (hb : (rightE c).1 = 0) {r : Nat} (hr : (r : Int) < c.regs) : -1 ≤ (sp (spansE c) r).lo ∧ (sp (spansE c) r).lo ≤ c.l.length ∧ -1 ≤ (sp (spansE c) r).hi ∧ (sp (spansE c) r).hi ≤ c.l.length := by
  have hlen : r < (spansE c).length := by unfold spansE; rw [if_pos hb, spansTo_length]; omega
  have hs : (spansE c)[r]? = some (sp (spansE c) r) := by
    show _ = some ((spansE c).getD r zSp)
    rw [List.getD_eq_getElem?_getD, List.getElem?_eq_getElem hlen]
    rfl
  exact span_bounds hb hs
theorem places_inv {c : Code} (hb : (rightE c).1 = 0) : Inv c (spansE c) c.regs.toNat (fun r => r < c.regs.toNat ∧ (sp (spansE c) r).lo < (sp (spansE c) r).hi) ((c.l.length : Int) - 1) (plTo c (spansE c) c.regs.toNat (c.l.length + 1)) := by
  have h := plTo_inv c (S := spansE c) (n := c.regs.toNat) (fun r hr => (span_lo hb (by omega)).1) (c.l.length + 1)
  rw [show ((c.l.length + 1 : Nat) : Int) - 2 = (c.l.length : Int) - 1 by omega] at h
  refine h.congr (fun r => ?_)
  unfold PkOf
  constructor
  · rintro ⟨a, b, _⟩; exact ⟨a, b⟩
  · rintro ⟨a, b⟩
    have := span_lo hb (show (r : Int) < c.regs by omega)
    exact ⟨a, b, by omega⟩
theorem placesE_ok {c : Code} (hb : (rightE c).1 = 0) : PlaceOk c c.regs.toNat (placesE c).1 (placesE c).2.1 := by
  have hi := places_inv hb
  have h0 := hi.ok.slots0
  unfold placesE
  rw [if_pos hb]
  refine ⟨hi.ok.len, h0, fun r hr => ?_, fun r k hk hr he => ?_⟩
  · by_cases hp : (sp (spansE c) r).lo < (sp (spansE c) r).hi
    · have := hi.lo r ⟨hr, hp⟩
      exact ⟨this.1, by have h1 := this.2.1; show ou (plTo c (spansE c) c.regs.toNat (c.l.length + 1)) r - 8 < _; show _ < (plTo c (spansE c) c.regs.toNat (c.l.length + 1)).slots; omega, this.2.2⟩
    · have := hi.rest r hr (fun e => hp e.2)
      refine ⟨by show 3 ≤ ou (plTo c (spansE c) c.regs.toNat (c.l.length + 1)) r; omega, by show ou (plTo c (spansE c) c.regs.toNat (c.l.length + 1)) r - 8 < (plTo c (spansE c) c.regs.toNat (c.l.length + 1)).slots; omega, fun hc => ?_⟩
      rw [calls_none hp] at hc
      cases hc
  · by_cases hp : (sp (spansE c) r).lo < (sp (spansE c) r).hi
    · by_cases hq : (sp (spansE c) k).lo < (sp (spansE c) k).hi
      · exact hi.apart k r ⟨by omega, hq⟩ ⟨hr, hp⟩ (by omega) he
      · exact meetB_none hq _
    · rw [meetB_symm]
      exact meetB_none hp _
theorem PlaceOk.check {c : Code} {n : Nat} {l : List Int} {slots : Int} (h : PlaceOk c n l slots) (hb : (rightE c).1 = 0) (hn : (n : Int) = c.regs) {more : Int} (hm : 0 ≤ more) : checkE c l (slots + more) = true := by
  have hl := h.len
  have hs := h.slots0
  refine check_true hb (by omega) (by omega) (fun r hr => ?_) (fun r k hk hr => h.apart r k hk (by omega))
  have := h.at_ r (by omega)
  exact ⟨this.1, by omega, this.2.2⟩
/-- All in slots of their own. -/
theorem check_all {c : Code} {n : Nat} (hb : (rightE c).1 = 0) (hn : (n : Int) = c.regs) : checkE c ((List.range n).map (fun i : Nat => 8 + (i : Int))) n = true := by
  have hg : ∀ r, r < n → ((List.range n).map (fun i : Nat => 8 + (i : Int))).getD r 0 = 8 + (r : Int) := by
    intro r hr
    rw [List.getD_eq_getElem?_getD, List.getElem?_map, List.getElem?_range hr]
    rfl
  refine check_true hb (by simp; omega) (by omega) (fun r hr => ?_) (fun r k hk hr he => ?_)
  · simp at hr
    rw [hg r hr]
    exact ⟨by omega, by omega, fun _ => by omega⟩
  · simp at hr
    rw [hg r hr, hg k (by omega)] at he
    omega
theorem check_few {c : Code} {n : Nat} (hn : 0 < n) : checkE c ((List.range n).map (fun i : Nat => 8 + (i : Int))) ((n : Int) - 1) = false := by
  have hg : ((List.range n).map (fun i : Nat => 8 + (i : Int))).getD (n - 1) 0 = 8 + ((n - 1 : Nat) : Int) := by
    rw [List.getD_eq_getElem?_getD, List.getElem?_map, List.getElem?_range (by omega)]
    rfl
  unfold checkE
  split
  · refine chk_false (r := n - 1) ?_ _ (by simp; omega)
    rw [hg]
    unfold okAt
    rw [decide_eq_true (show (n : Int) - 1 ≤ 8 + ((n - 1 : Nat) : Int) - 8 by omega)]
    simp
  · rfl
theorem check_len {c : Code} {l : List Int} {slots : Int} (h : (l.length : Int) ≠ c.regs) : checkE c l slots = false := by
  unfold checkE
  rw [if_neg (fun e => h e.2.1)]
end Go.Proofs.Ytlkkdpmloeipjaa
