/- The plain law of SpanParams: the spans of its function. -/
import Derived.Test.YtlkkdpmloeipjaaA14
namespace Go.Proofs.Ytlkkdpmloeipjaa
open Go.RowKit Go.Proofs.YtlkkdpmloeipjaaW.PrintWords
set_option linter.unusedVariables false

def irC (n : Int) : Ir := ⟨1, 0, n, 0, 0, 0, 0, ⟨#[]⟩, []⟩
def irR (k : Int) : Ir := ⟨10, 0, 0, k, 0, 0, 0, ⟨#[]⟩, []⟩
def cPar (n m k : Nat) : Code := ⟨⟨#[97, 46, 102]⟩, List.replicate n zTy, (n : Int) + 1, 0, List.replicate m (irC n) ++ [irR k]⟩
theorem cPar_C {n m k i : Nat} (h : i < m) : (cPar n m k).l[i]? = some (irC n) := by
  show (List.replicate m (irC n) ++ [irR k])[i]? = _
  rw [List.getElem?_append_left (by simpa using h)]
  simp [List.getElem?_replicate, h]
theorem cPar_R {n m k : Nat} : (cPar n m k).l[m]? = some (irR k) := by
  show (List.replicate m (irC n) ++ [irR k])[m]? = _
  rw [List.getElem?_append_right (by simp)]
  simp
theorem cPar_len {n m k : Nat} : (cPar n m k).l.length = m + 1 := by
  show (List.replicate m (irC n) ++ [irR k]).length = _
  simp
theorem words_rep (n : Nat) : wordsN (List.replicate n zTy) = n := by
  unfold wordsN
  rw [List.countP_replicate]
  rfl
theorem cells_rep (n : Nat) : cellsN (List.replicate n zTy) = 0 := by
  induction n with
  | zero => rfl
  | succ n ih =>
    rw [List.replicate_succ]
    show (0 : Int) + cellsN (List.replicate n zTy) = 0
    omega
theorem form_par {n m k : Nat} (hn : n ≤ 6) (hm : m ≤ 50) : formB (cPar n m k) = true := by
  show (namedB ⟨#[97, 46, 102]⟩ && decide ((List.replicate n zTy).length ≤ 6) && (List.replicate n zTy).all lenOk && decide ((wordsN (List.replicate n zTy) : Int) ≤ (n : Int) + 1 ∧ (n : Int) + 1 ≤ 10000 ∧ cellsN (List.replicate n zTy) ≤ 0 ∧ (0 : Int) ≤ 4096 ∧ 1 ≤ (cPar n m k).l.length ∧ (cPar n m k).l.length ≤ 10000)) = true
  rw [words_rep, cells_rep, cPar_len, show namedB ⟨#[97, 46, 102]⟩ = true by kernel_rfl]
  simp only [Bool.and_eq_true, decide_eq_true_eq, List.length_replicate, List.all_eq_true]
  refine ⟨⟨⟨trivial, hn⟩, fun t ht => ?_⟩, by omega, by omega, by omega, by omega, by omega, by omega⟩
  rw [List.eq_of_mem_replicate ht]
  decide
theorem wrong_par {n m k i : Nat} (hk : k < n) {x : Ir} (hx : (cPar n m k).l[i]? = some x) : wrongE (cPar n m k) i x = 0 := by
  have hi := (List.getElem?_eq_some_iff.1 hx).1
  rw [cPar_len] at hi
  have hc : (cPar n m k).cells = 0 := rfl
  have hr : (cPar n m k).regs = (n : Int) + 1 := rfl
  by_cases h : i < m
  · rw [cPar_C h] at hx
    obtain rfl := Option.some.inj hx
    unfold wrongE
    rw [if_neg (by simp [bad14, irC]), if_neg (by simp [bad15, readsL, writesB, outReg, irC, hr]; omega), if_neg (by simp [bad16, irC]), if_neg (by simp [bad17, irC]), if_neg (by simp [bad18, irC, cPar_len]; omega)]
  · obtain rfl : i = m := by omega
    rw [cPar_R] at hx
    obtain rfl := Option.some.inj hx
    unfold wrongE
    rw [if_neg (by simp [bad14, irR]), if_neg (by simp [bad15, readsL, writesB, outReg, irR, hr]; omega), if_neg (by simp [bad16, irR]), if_neg (by simp [bad17, irR]), if_neg (by simp [bad18, irR])]
theorem scan_all {c : Code} (h : ∀ k x, c.l[k]? = some x → wrongE c k x = 0) : ∀ n i, (scan c n i).1 = 0 := by
  intro n
  induction n with
  | zero => intro i; rfl
  | succ n ih =>
    intro i
    unfold scan
    cases hx : c.l[i]? with
    | none => rfl
    | some x =>
      simp only
      rw [if_pos (h i x hx)]
      exact ih _
theorem right_par {n m k : Nat} (hn : n ≤ 6) (hm : m ≤ 50) (hk : k < n) : (rightE (cPar n m k)).1 = 0 := by
  unfold rightE
  rw [if_pos (form_par hn hm)]
  exact scan_all (fun i x hx => wrong_par hk hx) _ _
def lastSp (j : Nat) : Sp := if j = 0 then ⟨-1, -1⟩ else ⟨0, (j : Int) - 1⟩
theorem to_par {n m k : Nat} : ∀ j, j ≤ m → spansTo (cPar n m k) j = List.replicate n ⟨-1, -1⟩ ++ [lastSp j] := by
  intro j
  induction j with
  | zero =>
    intro _
    show List.replicate ((n : Int) + 1).toNat _ = _
    rw [show ((n : Int) + 1).toNat = n + 1 by omega, List.replicate_succ']
    rfl
  | succ j ih =>
    intro hj
    rw [spansTo_succ (cPar_C (by omega)), ih (by omega)]
    have hw : wordsN (cPar n m k).params = n := words_rep n
    rw [hw]
    show touchSp (n : Nat) (j : Nat) (List.replicate n ⟨-1, -1⟩ ++ [lastSp j]) (n : Int) = _
    unfold touchSp
    rw [show ((n : Int)).toNat = n by omega, List.set_append_right _ _ (by simp)]
    simp only [List.length_replicate, Nat.sub_self, List.set_cons_zero]
    rw [show (List.replicate n (⟨-1, -1⟩ : Sp) ++ [lastSp j]).getD n zSp = lastSp j by simp [List.getD, List.getElem?_append_right]]
    congr 2
    unfold touchS lastSp
    by_cases h0 : j = 0
    · subst h0; simp
    · rw [if_neg h0]
      have : ¬ (((j : Int) - 1 < 0) ∧ (n : Int) ≤ n) := by omega
      simp only
      rw [if_neg this, if_neg (by omega)]
      congr 1
      omega
theorem spans_par {n m k : Nat} (hn : n ≤ 6) (hm : m ≤ 50) (hk : k < n) : spansE (cPar n m k) = (List.replicate n (⟨-1, -1⟩ : Sp) ++ [lastSp m]).set k ⟨-1, (m : Int)⟩ := by
  unfold spansE
  rw [if_pos (right_par hn hm hk), cPar_len, spansTo_succ cPar_R, to_par m (Nat.le_refl _)]
  have hw : wordsN (cPar n m k).params = n := words_rep n
  rw [hw]
  show touchSp (n : Nat) (m : Nat) (List.replicate n ⟨-1, -1⟩ ++ [lastSp m]) (k : Int) = _
  unfold touchSp
  rw [show ((k : Int)).toNat = k by omega]
  congr 1
  rw [show (List.replicate n (⟨-1, -1⟩ : Sp) ++ [lastSp m]).getD k zSp = ⟨-1, -1⟩ by rw [List.getD, List.getElem?_append_left (by simpa using hk)]; simp [List.getElem?_replicate, hk]]
  unfold touchS
  simp only
  rw [if_neg (by omega)]
/-- What the law asks of the spans, one by one. -/
theorem spans_par_facts {n m k : Nat} (hn : n ≤ 6) (hm : m ≤ 50) (hk : k < n) : (spansE (cPar n m k)).length = n + 1 ∧ (spansE (cPar n m k))[n]? = some (lastSp m) ∧ (spansE (cPar n m k))[k]? = some ⟨-1, (m : Int)⟩ ∧ ∀ i, i < n → i ≠ k → (spansE (cPar n m k))[i]? = some ⟨-1, -1⟩ := by
  rw [spans_par hn hm hk]
  refine ⟨by simp, ?_, ?_, fun i hi hik => ?_⟩
  · rw [List.getElem?_set_ne (by omega), List.getElem?_append_right (by simp)]
    simp
  · rw [List.getElem?_set_self (by simp; omega)]
  · rw [List.getElem?_set_ne (by omega), List.getElem?_append_left (by simpa using hi)]
    simp [List.getElem?_replicate, hi]
end Go.Proofs.Ytlkkdpmloeipjaa
