/- place.Places: what it computes. -/
import Derived.Test.YtlkkdpmloeipjaaD1
import Derived.Test.YtlkkdpmloeipjaaB2
namespace Go.Proofs.Ytlkkdpmloeipjaa
open Go.RowKit Go.Proofs.YtlkkdpmloeipjaaW.PrintWords
set_option linter.unusedVariables false

/-- The first place from p on that is free (fuel: places that may be taken). -/
def firstFree (f : Int → Option Int) : Nat → Int → Int
  | 0, p => p
  | m + 1, p => if (f p).isSome = true then firstFree f m (p + 1) else p
theorem firstFree_taken {f : Int → Option Int} {m : Nat} {p : Int} (h : (f p).isSome = true) : firstFree f (m + 1) p = firstFree f m (p + 1) := if_pos h
theorem firstFree_free {f : Int → Option Int} {p : Int} (h : (f p).isSome = false) : ∀ m, firstFree f m p = p
  | 0 => rfl
  | m + 1 => by unfold firstFree; rw [if_neg (by rw [h]; decide)]
theorem firstFree_le (f : Int → Option Int) : ∀ (m : Nat) (p : Int), p ≤ firstFree f m p ∧ firstFree f m p ≤ p + m
  | 0, p => ⟨Int.le_refl _, by simp [firstFree]⟩
  | m + 1, p => by
    unfold firstFree
    split
    · have := firstFree_le f m (p + 1); omega
    · omega
/-- The state: who is busy till when, the places, the slots, how many have been placed. -/
structure PlSt where
  busy : Int → Option Int
  out : List Int
  slots : Int
  cnt : Nat
def baseP (c : Code) (s : Sp) : Int := if callsB c s = true then 8 else 3
def plOne (c : Code) (S : List Sp) (s : PlSt) (r : Nat) : PlSt :=
  let p := firstFree s.busy (5 + s.cnt) (baseP c (S.getD r zSp))
  ⟨updF s.busy p (some (S.getD r zSp).hi), s.out.set r p, max s.slots (p + 1 - 8), s.cnt + 1⟩
/-- The registers whose span begins at a place, in their order. -/
def begL (S : List Sp) (n : Nat) (at_ : Int) : List Nat := (List.range n).filter (fun r => decide ((S.getD r zSp).lo = at_ ∧ (S.getD r zSp).lo < (S.getD r zSp).hi))
/-- Who is still busy behind a place. -/
def dropF (f : Int → Option Int) (at_ : Int) : Int → Option Int := fun k => match f k with
  | some e => if e ≤ at_ then none else some e
  | none => none
def plAt (c : Code) (S : List Sp) (n : Nat) (at_ : Int) (s : PlSt) : PlSt := (begL S n at_).foldl (plOne c S) { s with busy := dropF s.busy at_ }
def plTo (c : Code) (S : List Sp) (n : Nat) : Nat → PlSt
  | 0 => ⟨fun _ => none, List.replicate n 3, 0, 0⟩
  | k + 1 => plAt c S n ((k : Int) - 1) (plTo c S n k)
def placesE (c : Code) : List Int × Int × Int :=
  if (rightE c).1 = 0 then ((plTo c (spansE c) c.regs.toNat (c.l.length + 1)).out, (plTo c (spansE c) c.regs.toNat (c.l.length + 1)).slots, 0) else ([], 0, (rightE c).1)

/-- What holds of the state all along. -/
structure PlOk (n : Nat) (s : PlSt) : Prop where
  busy : ∀ q, 8 + (s.cnt : Int) ≤ q → s.busy q = none
  len : s.out.length = n
  slots0 : 0 ≤ s.slots
  slots1 : s.slots ≤ s.cnt
theorem PlOk.start (n : Nat) : PlOk n ⟨fun _ => none, List.replicate n 3, 0, 0⟩ := ⟨fun _ _ => rfl, List.length_replicate .., Int.le_refl _, Int.le_refl _⟩
theorem PlOk.drop {n : Nat} {s : PlSt} (h : PlOk n s) (at_ : Int) : PlOk n { s with busy := dropF s.busy at_ } :=
  ⟨fun q hq => by show dropF s.busy at_ q = none; unfold dropF; rw [h.busy q hq], h.len, h.slots0, h.slots1⟩
theorem baseP_cases (c : Code) (s : Sp) : baseP c s = 3 ∨ baseP c s = 8 := by unfold baseP; split <;> simp
/-- The place that is found: no more than the first that none can have. -/
theorem free_le {n : Nat} {s : PlSt} (h : PlOk n s) {b : Int} (hb : b ≤ 8) : ∀ (m : Nat), b + m ≤ 8 + s.cnt ∨ b + m ≥ 8 + (s.cnt : Int) → firstFree s.busy m b ≤ 8 + s.cnt := by
  intro m _
  suffices ∀ (m : Nat) (p : Int), p ≤ 8 + s.cnt → firstFree s.busy m p ≤ 8 + s.cnt from this m b (by omega)
  intro m
  induction m with
  | zero => intro p hp; exact hp
  | succ m ih =>
    intro p hp
    unfold firstFree
    split
    · rename_i hs
      refine ih (p + 1) ?_
      by_cases e : p = 8 + s.cnt
      · rw [h.busy p (by omega)] at hs; cases hs
      · omega
    · exact hp
theorem PlOk.one {n : Nat} {s : PlSt} (h : PlOk n s) (c : Code) (S : List Sp) (r : Nat) : PlOk n (plOne c S s r) := by
  have hb := baseP_cases c (S.getD r zSp)
  have hf := free_le h (b := baseP c (S.getD r zSp)) (by omega) (5 + s.cnt) (by omega)
  have h0 := h.slots0
  have h1 := h.slots1
  refine ⟨fun q hq => ?_, ?_, ?_, ?_⟩
  · show updF s.busy _ _ q = none
    have hq' : 8 + ((s.cnt + 1 : Nat) : Int) ≤ q := hq
    unfold updF
    rw [if_neg (by omega)]
    exact h.busy q (by omega)
  · show (s.out.set r _).length = n
    rw [List.length_set, h.len]
  · show 0 ≤ max s.slots _
    omega
  · show max s.slots _ ≤ ((s.cnt + 1 : Nat) : Int)
    omega
theorem PlOk.fold {n : Nat} {c : Code} {S : List Sp} : ∀ (rs : List Nat) (s : PlSt), PlOk n s → PlOk n (rs.foldl (plOne c S) s)
  | [], _, h => h
  | r :: rs, s, h => PlOk.fold rs _ (h.one c S r)
theorem plTo_ok (c : Code) (S : List Sp) (n : Nat) : ∀ k, PlOk n (plTo c S n k)
  | 0 => PlOk.start n
  | k + 1 => PlOk.fold _ _ ((plTo_ok c S n k).drop _)
theorem plFold_cnt {c : Code} {S : List Sp} : ∀ (rs : List Nat) (s : PlSt), (rs.foldl (plOne c S) s).cnt = s.cnt + rs.length
  | [], _ => rfl
  | r :: rs, s => by rw [List.foldl_cons, plFold_cnt rs]; show s.cnt + 1 + rs.length = _; simp; omega
theorem plTo_cnt (c : Code) (S : List Sp) (n : Nat) : ∀ k, (plTo c S n k).cnt ≤ k * n
  | 0 => Nat.zero_le _
  | k + 1 => by
    show (plAt c S n _ (plTo c S n k)).cnt ≤ _
    unfold plAt
    rw [plFold_cnt]
    have h1 := plTo_cnt c S n k
    have h2 : (begL S n ((k : Int) - 1)).length ≤ n := by
      unfold begL
      exact Nat.le_trans (List.length_filter_le _ _) (by simp)
    rw [Nat.succ_mul]
    show (plTo c S n k).cnt + _ ≤ _
    omega
end Go.Proofs.Ytlkkdpmloeipjaa
