/- The machine in plain words: what an instruction does, what can be seen of it, a run. -/
import Derived.Test.YtddnbpgibfmolaaM4
namespace Go.Proofs.Ytddnbpgibfmolaa
open Go.RowKit Go.Proofs.YtddnbpgibfmolaaW.PrintWords
set_option linter.unusedVariables false

/-- Two words, reckoned. -/
def opE (op a b : Int) : Int :=
  if op = 1 then (a + b) % 4294967296 else if op = 2 then (a - b) % 4294967296 else if op = 3 then (a * b) % 4294967296
  else if op = 4 then ((a.toNat &&& b.toNat : Nat) : Int) else if op = 5 then ((a.toNat ||| b.toNat : Nat) : Int) else if op = 6 then ((a.toNat ^^^ b.toNat : Nat) : Int)
  else if op = 7 then (a * 2 ^ (b % 32).toNat) % 4294967296 else if op = 8 then a / 2 ^ (b % 32).toNat
  else if op = 9 then (if a < b then 1 else 0) else if op = 10 then (if a = b then 1 else 0) else 0
/-- A run, as it stands. -/
structure MSt where
  regs : List Int
  mem : List Int
  back : List Int
  pos : Int
  over : Bool
  far : Bool
def atC (code : List Mi) (p : Int) : Mi := code.getD p.toNat zMi
def gt (l : List Int) (i : Int) : Int := l.getD i.toNat 0
def pt (l : List Int) (i v : Int) : List Int := l.set i.toNat v
def doE (x : Mi) (s : MSt) : MSt :=
  if x.kind = 1 then { s with pos := s.pos + 1, regs := pt s.regs x.d x.n }
  else if x.kind = 2 then { s with pos := s.pos + 1, regs := pt s.regs x.d (gt s.regs x.a) }
  else if x.kind = 3 then { s with pos := s.pos + 1, regs := pt s.regs x.d (opE x.op (gt s.regs x.a) (gt s.regs x.b)) }
  else if x.kind = 4 then { s with pos := s.pos + 1, regs := pt s.regs x.d (gt s.mem x.n) }
  else if x.kind = 5 then { s with pos := s.pos + 1, mem := pt s.mem x.n (gt s.regs x.a) }
  else if x.kind = 6 then { s with pos := x.n }
  else if x.kind = 7 then { s with pos := if gt s.regs x.a = 0 then x.n else s.pos + 1 }
  else if x.kind = 8 then { s with pos := x.n, back := s.back ++ [s.pos + 1], far := decide (s.back.length = 32) }
  else if x.kind = 9 then (if s.back.length = 0 then { s with pos := s.pos + 1, over := true } else { s with pos := gt s.back (s.back.length - 1), back := s.back.take (s.back.length - 1), over := false })
  else { s with pos := s.pos + 1 }
def leakOf (x : Mi) (p : Int) : Leak := ⟨p, if x.kind = 4 ∨ x.kind = 5 then x.n else -1⟩
def stepE (code : List Mi) (s : MSt) : MSt := doE (atC code s.pos) s
def leakE (code : List Mi) (s : MSt) : Leak := leakOf (atC code s.pos) s.pos
/-- A run of so many steps at most. -/
def runF (code : List Mi) : Nat → MSt → List Leak → Option (MSt × List Leak)
  | 0, s, out => if s.over = true then some (s, out) else none
  | f + 1, s, out => if s.over = true then some (s, out) else if s.far = true then none else runF code f (stepE code s) (out ++ [leakE code s])

/-- May code be? -/
structure CodeFine (l : List Mi) (cells : Int) : Prop where
  pos : 0 < l.length
  len : l.length ≤ 20000
  c0 : 0 ≤ cells
  c1 : cells ≤ 4096
  each : ∀ (k : Nat) (x : Mi), l[k]? = some x → mwE l.length cells k x = 0
theorem mscan_zero {l : List Mi} {cells : Int} : ∀ (m k : Nat), k + m = l.length → (mscan l cells m k).1 = 0 → ∀ (j : Nat) (x : Mi), k ≤ j → l[j]? = some x → mwE l.length cells j x = 0 := by
  intro m
  induction m with
  | zero =>
    intro k hk _ j x hj hx
    have := (List.getElem?_eq_some_iff.1 hx).1
    omega
  | succ m ih =>
    intro k hk h j x hj hx
    have hlt : k < l.length := by omega
    unfold mscan at h
    rw [List.getElem?_eq_getElem hlt] at h
    simp only at h
    by_cases he : mwE l.length cells k l[k] = 0
    · rw [if_pos he] at h
      by_cases e : j = k
      · subst e
        rw [List.getElem?_eq_getElem hlt] at hx
        injection hx with hx
        rw [← hx]; exact he
      · exact ih (k + 1) (by omega) h j x (by omega) hx
    · rw [if_neg he] at h
      exact absurd h he
theorem mscan_of {l : List Mi} {cells : Int} : ∀ (m k : Nat), k + m = l.length → (∀ (j : Nat) (x : Mi), k ≤ j → l[j]? = some x → mwE l.length cells j x = 0) → mscan l cells m k = (0, -1) := by
  intro m
  induction m with
  | zero => intro k hk _; rfl
  | succ m ih =>
    intro k hk h
    have hlt : k < l.length := by omega
    unfold mscan
    rw [List.getElem?_eq_getElem hlt]
    simp only
    rw [if_pos (h k _ (Nat.le_refl _) (List.getElem?_eq_getElem hlt))]
    exact ih (k + 1) (by omega) (fun j x hj => h j x (by omega))
theorem fine_of {l : List Mi} {cells : Int} (h : (mcheckE l cells).1 = 0) : CodeFine l cells := by
  unfold mcheckE at h
  by_cases hc : l.length = 0 ∨ 20000 < l.length ∨ cells < 0 ∨ 4096 < cells
  · rw [if_pos hc] at h; cases h
  · rw [if_neg hc] at h
    exact ⟨by omega, by omega, by omega, by omega, fun k x hx => mscan_zero _ 0 (by omega) h k x (Nat.zero_le _) hx⟩
theorem of_fine {l : List Mi} {cells : Int} (h : CodeFine l cells) : (mcheckE l cells).1 = 0 := by
  have h1 := h.pos; have h2 := h.len; have h3 := h.c0; have h4 := h.c1
  unfold mcheckE
  rw [if_neg (by omega), mscan_of l.length 0 (by omega) (fun j x _ hx => h.each j x hx)]
theorem mw_zero {len : Nat} {cells : Int} {i : Nat} {x : Mi} (h : mwE len cells i x = 0) : miB x = true ∧ ((x.kind = 4 ∨ x.kind = 5) → x.n < cells) ∧ ((x.kind = 6 ∨ x.kind = 7 ∨ x.kind = 8) → x.n < len) ∧ (i + 1 = len → x.kind = 6 ∨ x.kind = 9) := by
  unfold mwE at h
  cases hm : miB x
  · rw [if_pos hm] at h; cases h
  · rw [if_neg (by rw [hm]; decide)] at h
    by_cases h1 : (x.kind = 4 ∨ x.kind = 5) ∧ cells ≤ x.n
    · rw [if_pos h1] at h; cases h
    · rw [if_neg h1] at h
      by_cases h2 : 6 ≤ x.kind ∧ x.kind ≤ 8 ∧ (len : Int) ≤ x.n
      · rw [if_pos h2] at h; cases h
      · rw [if_neg h2] at h
        by_cases h3 : i + 1 = len ∧ x.kind ≠ 6 ∧ x.kind ≠ 9
        · rw [if_pos h3] at h; cases h
        · exact ⟨rfl, by omega, by omega, by omega⟩
theorem mi_parts {x : Mi} (h : miB x = true) : 0 ≤ x.d ∧ x.d ≤ 7 ∧ 0 ≤ x.a ∧ x.a ≤ 7 ∧ 0 ≤ x.b ∧ x.b ≤ 7 ∧ 1 ≤ x.kind ∧ x.kind ≤ 9 ∧ (x.kind = 3 → 1 ≤ x.op ∧ x.op ≤ 10) := by
  unfold miB at h
  rw [Bool.and_eq_true, decide_eq_true_eq] at h
  obtain ⟨⟨h1, h2, h3, h4, h5, h6⟩, h⟩ := h
  refine ⟨h1, h2, h3, h4, h5, h6, ?_⟩
  by_cases k1 : x.kind = 1 ∨ x.kind = 4
  · omega
  rw [if_neg k1] at h
  by_cases k2 : x.kind = 2
  · omega
  rw [if_neg k2] at h
  by_cases k3 : x.kind = 3
  · rw [if_pos k3, decide_eq_true_eq] at h; omega
  rw [if_neg k3] at h
  by_cases k5 : x.kind = 5 ∨ x.kind = 7
  · omega
  rw [if_neg k5] at h
  by_cases k6 : x.kind = 6 ∨ x.kind = 8
  · omega
  rw [if_neg k6] at h
  by_cases k9 : x.kind = 9
  · omega
  rw [if_neg k9] at h
  cases h

def u32 (n : Int) : Prop := 0 ≤ n ∧ n < 4294967296
/-- What holds of a run that is not over. -/
structure MOk (code : List Mi) (cells : Int) (s : MSt) : Prop where
  regs : s.regs.length = 8
  mem : (s.mem.length : Int) = cells
  r32 : ∀ r ∈ s.regs, u32 r
  m32 : ∀ r ∈ s.mem, u32 r
  back : s.back.length ≤ 33
  bk : s.far = false → s.back.length ≤ 32
  backs : ∀ p ∈ s.back, 0 ≤ p ∧ p < code.length
  p0 : 0 ≤ s.pos
  p1 : s.over = false → s.pos < code.length
theorem atC_some {code : List Mi} {p : Int} (h0 : 0 ≤ p) (h1 : p < code.length) : code[p.toNat]? = some (atC code p) := by
  have hl : p.toNat < code.length := by omega
  simp [atC, List.getD, hl]
theorem gt_mem {l : List Int} {i : Int} (h0 : 0 ≤ i) (h1 : i < l.length) : gt l i ∈ l := by
  have hl : i.toNat < l.length := by omega
  simp only [gt, List.getD, List.getElem?_eq_getElem hl, Option.getD_some]
  exact List.getElem_mem hl
theorem gt_some {l : List Int} {i : Int} (h0 : 0 ≤ i) (h1 : i < l.length) : l[i.toNat]? = some (gt l i) := by
  have hl : i.toNat < l.length := by omega
  simp [gt, List.getD, hl]
theorem pt_length (l : List Int) (i v : Int) : (pt l i v).length = l.length := by simp [pt]
theorem pt_mem {P : Int → Prop} {l : List Int} {i v : Int} (h : ∀ r ∈ l, P r) (hv : P v) : ∀ r ∈ pt l i v, P r := by
  intro r hr
  rcases List.mem_or_eq_of_mem_set hr with h1 | h1
  · exact h r h1
  · rw [h1]; exact hv
theorem opE_u32 {op a b : Int} (ha : u32 a) (hb : u32 b) : u32 (opE op a b) := by
  obtain ⟨a0, a1⟩ := ha
  obtain ⟨b0, b1⟩ := hb
  have ha2 : a.toNat < 2 ^ 32 := by omega
  have hb2 : b.toNat < 2 ^ 32 := by omega
  unfold opE u32
  split
  · omega
  split
  · omega
  split
  · omega
  split
  · have := Nat.and_lt_two_pow a.toNat hb2; omega
  split
  · have := Nat.or_lt_two_pow ha2 hb2; omega
  split
  · have := Nat.xor_lt_two_pow ha2 hb2; omega
  split
  · omega
  split
  · have hp : (0 : Int) < 2 ^ (b % 32).toNat := Int.pow_pos (by decide)
    exact ⟨Int.ediv_nonneg a0 (Int.le_of_lt hp), Int.lt_of_le_of_lt (Int.ediv_le_self _ a0) a1⟩
  split
  · split <;> omega
  split
  · split <;> omega
  · omega
theorem MOk.next {code : List Mi} {cells : Int} {s : MSt} (h : MOk code cells s) {regs mem : List Int} {p : Int} (hr : regs.length = 8) (hm : (mem.length : Int) = cells) (h32 : ∀ r ∈ regs, u32 r) (hm32 : ∀ r ∈ mem, u32 r) (h0 : 0 ≤ p) (h1 : p < code.length) : MOk code cells ⟨regs, mem, s.back, p, s.over, s.far⟩ :=
  ⟨hr, hm, h32, hm32, h.back, h.bk, h.backs, h0, fun _ => h1⟩
theorem step_ok {code : List Mi} {cells : Int} {s : MSt} (hf : CodeFine code cells) (hn : ∀ x ∈ code, 0 ≤ x.n ∧ x.n < 4294967296) (h : MOk code cells s) (ho : s.over = false) (hfar : s.far = false) : MOk code cells (stepE code s) := by
  have hp1 := h.p1 ho
  have hp0 := h.p0
  have hx := atC_some hp0 hp1
  obtain ⟨hmi, hc, hj, hl⟩ := mw_zero (hf.each _ _ hx)
  have hxn := hn _ (List.mem_of_getElem? hx)
  unfold stepE
  generalize atC code s.pos = x at *
  obtain ⟨d0, d7, a0, a7, b0, b7, k0, k9, ho3⟩ := mi_parts hmi
  have hR : ∀ i : Int, 0 ≤ i → i ≤ 7 → u32 (gt s.regs i) := fun i h0 h7 => h.r32 _ (gt_mem h0 (by have := h.regs; omega))
  have hbk := h.bk hfar
  have hnext : ¬ x.kind = 6 → ¬ x.kind = 9 → 0 ≤ s.pos + 1 ∧ s.pos + 1 < code.length := fun h6 h9 => by
    refine ⟨by omega, ?_⟩
    rcases Int.lt_or_le (s.pos + 1) code.length with hh | hh
    · exact hh
    · have := hl (by omega)
      omega
  have hreg := h.regs
  have hmem := h.mem
  unfold doE
  by_cases k1 : x.kind = 1
  · rw [if_pos k1]
    obtain ⟨n0, n1⟩ := hnext (by omega) (by omega)
    exact h.next ((pt_length ..).trans hreg) hmem (pt_mem h.r32 hxn) h.m32 n0 n1
  rw [if_neg k1]
  by_cases k2 : x.kind = 2
  · rw [if_pos k2]
    obtain ⟨n0, n1⟩ := hnext (by omega) (by omega)
    exact h.next ((pt_length ..).trans hreg) hmem (pt_mem h.r32 (hR _ a0 a7)) h.m32 n0 n1
  rw [if_neg k2]
  by_cases k3 : x.kind = 3
  · rw [if_pos k3]
    obtain ⟨n0, n1⟩ := hnext (by omega) (by omega)
    exact h.next ((pt_length ..).trans hreg) hmem (pt_mem h.r32 (opE_u32 (hR _ a0 a7) (hR _ b0 b7))) h.m32 n0 n1
  rw [if_neg k3]
  by_cases k4 : x.kind = 4
  · rw [if_pos k4]
    obtain ⟨n0, n1⟩ := hnext (by omega) (by omega)
    have hlt := hc (.inl k4)
    exact h.next ((pt_length ..).trans hreg) hmem (pt_mem h.r32 (h.m32 _ (gt_mem hxn.1 (by omega)))) h.m32 n0 n1
  rw [if_neg k4]
  by_cases k5 : x.kind = 5
  · rw [if_pos k5]
    obtain ⟨n0, n1⟩ := hnext (by omega) (by omega)
    exact h.next hreg (by rw [pt_length]; exact hmem) h.r32 (pt_mem h.m32 (hR _ a0 a7)) n0 n1
  rw [if_neg k5]
  by_cases k6 : x.kind = 6
  · rw [if_pos k6]
    exact h.next hreg hmem h.r32 h.m32 hxn.1 (hj (.inl k6))
  rw [if_neg k6]
  by_cases k7 : x.kind = 7
  · rw [if_pos k7]
    obtain ⟨n0, n1⟩ := hnext (by omega) (by omega)
    by_cases hz : gt s.regs x.a = 0
    · rw [if_pos hz]
      exact h.next hreg hmem h.r32 h.m32 hxn.1 (hj (.inr (.inl k7)))
    · rw [if_neg hz]
      exact h.next hreg hmem h.r32 h.m32 n0 n1
  rw [if_neg k7]
  by_cases k8 : x.kind = 8
  · rw [if_pos k8]
    obtain ⟨n0, n1⟩ := hnext (by omega) (by omega)
    have hlen : (s.back ++ [s.pos + 1]).length = s.back.length + 1 := by simp
    refine ⟨hreg, hmem, h.r32, h.m32, by show (s.back ++ [s.pos + 1]).length ≤ 33; omega, fun hd => ?_, fun p hp => ?_, hxn.1, fun _ => hj (.inr (.inr k8))⟩
    · show (s.back ++ [s.pos + 1]).length ≤ 32
      have hd' : decide (s.back.length = 32) = false := hd
      have := of_decide_eq_false hd'
      omega
    · rcases List.mem_append.1 hp with hp | hp
      · exact h.backs p hp
      · rw [List.mem_singleton.1 hp]; exact ⟨n0, n1⟩
  rw [if_neg k8]
  by_cases k9' : x.kind = 9
  · rw [if_pos k9']
    by_cases hz : s.back.length = 0
    · rw [if_pos hz]
      exact ⟨hreg, hmem, h.r32, h.m32, h.back, h.bk, h.backs, by show 0 ≤ s.pos + 1; omega, fun hh => by cases hh⟩
    · rw [if_neg hz]
      have hg := h.backs _ (gt_mem (l := s.back) (i := (s.back.length : Int) - 1) (by omega) (by omega))
      have hle : (s.back.take (s.back.length - 1)).length ≤ 32 := by rw [List.length_take]; omega
      exact ⟨hreg, hmem, h.r32, h.m32, Nat.le_succ_of_le hle, fun _ => hle, fun p hp => h.backs p (List.mem_of_mem_take hp), hg.1, fun _ => hg.2⟩
  · omega
theorem runF_over {code : List Mi} {f : Nat} {s : MSt} {out : List Leak} (h : s.over = true) : runF code f s out = some (s, out) := by
  cases f <;> simp [runF, h]
theorem runF_far {code : List Mi} {f : Nat} {s : MSt} {out : List Leak} (h : s.over = false) (hf : s.far = true) : runF code f s out = none := by
  cases f <;> simp [runF, h, hf]
theorem runF_end {code : List Mi} {s : MSt} {out : List Leak} (h : s.over = false) : runF code 0 s out = none := by simp [runF, h]
theorem runF_step {code : List Mi} {f : Nat} {s : MSt} {out : List Leak} (h : s.over = false) (hf : s.far = false) : runF code (f + 1) s out = runF code f (stepE code s) (out ++ [leakE code s]) := by simp [runF, h, hf]
theorem runF_ok {code : List Mi} {cells : Int} (hf : CodeFine code cells) (hn : ∀ x ∈ code, 0 ≤ x.n ∧ x.n < 4294967296) : ∀ (f : Nat) (s : MSt) (out : List Leak) {s' : MSt} {out' : List Leak}, MOk code cells s → runF code f s out = some (s', out') →
    MOk code cells s' ∧ s'.over = true ∧ ∃ l, out' = out ++ l := by
  intro f
  induction f with
  | zero =>
    intro s out s' out' h hr
    cases ho : s.over
    · rw [runF_end ho] at hr; cases hr
    · rw [runF_over ho] at hr
      simp only [Option.some.injEq, Prod.mk.injEq] at hr
      obtain ⟨rfl, rfl⟩ := hr
      exact ⟨h, ho, [], by simp⟩
  | succ f ih =>
    intro s out s' out' h hr
    cases ho : s.over
    · cases hfar : s.far
      · rw [runF_step ho hfar] at hr
        obtain ⟨h1, h2, l, h3⟩ := ih _ _ (step_ok hf hn h ho hfar) hr
        exact ⟨h1, h2, leakE code s :: l, by rw [h3]; simp⟩
      · rw [runF_far ho hfar] at hr; cases hr
    · rw [runF_over ho] at hr
      simp only [Option.some.injEq, Prod.mk.injEq] at hr
      obtain ⟨rfl, rfl⟩ := hr
      exact ⟨h, ho, [], by simp⟩

/-- May an image be? -/
def entB (x : Entry) (len : Nat) (mem : Int) : Bool := namedB x.name && decide (x.params.length ≤ 6) && x.params.all lenOk &&
  decide (0 ≤ x.pos ∧ x.pos < len ∧ 0 ≤ x.base ∧ x.base ≤ mem ∧ (wordsN x.params : Int) + cellsN x.params ≤ x.cells ∧ x.cells ≤ mem - x.base)
/-- Do names rise, behind one? -/
def risesB : ByteArray → List Entry → Bool
  | _, [] => true
  | last, x :: l => Op.bytesLess last.toList x.name.toList && risesB x.name l
def lastN : ByteArray → List Entry → ByteArray
  | n, [] => n
  | _, x :: l => lastN x.name l
def imgB (m : Image) : Bool := decide ((mcheckE m.code m.mem).1 = 0) && m.entries.all (fun x => entB x m.code.length m.mem) && risesB ⟨#[]⟩ m.entries
/-- The entry of a name. -/
def findE : List Entry → ByteArray → Option Entry
  | [], _ => none
  | x :: l, n => match findE l n with
    | some y => some y
    | none => if x.name = n then some x else none
def putAt (mem : List Int) (c : Nat) (xs : List Int) : List Int := mem.take c ++ xs ++ mem.drop (c + xs.length)
/-- Arguments are laid. -/
def layE : List Ty → List Int → Nat → Nat → List Int → List Int
  | [], _, _, _, mem => mem
  | t :: ps, args, w, c, mem => if t.len = 0 then layE ps (args.drop 1) (w + 1) c (mem.set w (args.getD 0 0)) else layE ps (args.drop t.len.toNat) w (c + t.len.toNat) (putAt mem c (args.take t.len.toNat))
def mem0 (m : Image) (x : Entry) (args : List Int) : List Int := layE x.params args x.base.toNat (x.base.toNat + wordsN x.params) (List.replicate m.mem.toNat 0)
def st0 (m : Image) (x : Entry) (args : List Int) : MSt := ⟨List.replicate 8 0, mem0 m x args, [], x.pos, false, false⟩
structure Told where
  res : Int
  arrs : List Int
  leaks : List Leak
  err : Int
def toldE (x : Entry) : Option (MSt × List Leak) → Told
  | none => ⟨0, [], [], 19⟩
  | some (s, out) => ⟨gt s.regs 0, (s.mem.drop (x.base.toNat + wordsN x.params)).take (cellsN x.params).toNat, out, 0⟩
/-- What comes of a function of an image, and what can be seen of it. -/
def tellE (m : Image) (name : ByteArray) (args : List Int) : Told :=
  if imgB m = false then ⟨0, [], [], 6⟩ else match findE m.entries name with
    | none => ⟨0, [], [], 22⟩
    | some x => if (args.length : Int) ≠ wordsN x.params + cellsN x.params then ⟨0, [], [], 1⟩ else toldE x (runF m.code 1500000 (st0 m x args) [])
end Go.Proofs.Ytddnbpgibfmolaa
