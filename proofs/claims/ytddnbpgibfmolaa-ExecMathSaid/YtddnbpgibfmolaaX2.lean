/- Plain laws of runs: cells, code and an entry more change nothing. -/
import Derived.Test.YtddnbpgibfmolaaX1
namespace Go.Proofs.Ytddnbpgibfmolaa
open Go.RowKit Go.Proofs.YtddnbpgibfmolaaW.PrintWords
set_option linter.unusedVariables false

def rets : Mi := ⟨9, 0, 0, 0, 0, 0⟩
/-- A run with memory behind. -/
def MSt.wide (s : MSt) (z : List Int) : MSt := { s with mem := s.mem ++ z }
theorem gt_append {l z : List Int} {i : Int} (h0 : 0 ≤ i) (h1 : i < l.length) : gt (l ++ z) i = gt l i := by
  show ((l ++ z)[i.toNat]?).getD 0 = (l[i.toNat]?).getD 0
  rw [List.getElem?_append_left (by omega)]
theorem pt_append {l z : List Int} {i v : Int} (h0 : 0 ≤ i) (h1 : i < l.length) : pt (l ++ z) i v = pt l i v ++ z := by
  show (l ++ z).set i.toNat v = l.set i.toNat v ++ z
  rw [List.set_append_left _ _ (by omega)]
theorem atC_append {code z : List Mi} {p : Int} (h0 : 0 ≤ p) (h1 : p < code.length) : atC (code ++ z) p = atC code p := by
  show ((code ++ z)[p.toNat]?).getD zMi = (code[p.toNat]?).getD zMi
  rw [List.getElem?_append_left (by omega)]
theorem do_wide {x : Mi} {s : MSt} {z : List Int} (h : (x.kind = 4 ∨ x.kind = 5) → 0 ≤ x.n ∧ x.n < s.mem.length) : doE x (s.wide z) = (doE x s).wide z := by
  obtain ⟨regs, mem, back, pos, over, far⟩ := s
  show doE x ⟨regs, mem ++ z, back, pos, over, far⟩ = (doE x ⟨regs, mem, back, pos, over, far⟩).wide z
  unfold doE
  by_cases k1 : x.kind = 1
  · rw [if_pos k1, if_pos k1]; rfl
  rw [if_neg k1, if_neg k1]
  by_cases k2 : x.kind = 2
  · rw [if_pos k2, if_pos k2]; rfl
  rw [if_neg k2, if_neg k2]
  by_cases k3 : x.kind = 3
  · rw [if_pos k3, if_pos k3]; rfl
  rw [if_neg k3, if_neg k3]
  by_cases k4 : x.kind = 4
  · rw [if_pos k4, if_pos k4]; have := h (.inl k4); simp only [gt_append this.1 this.2]; rfl
  rw [if_neg k4, if_neg k4]
  by_cases k5 : x.kind = 5
  · rw [if_pos k5, if_pos k5]; have := h (.inr k5); simp only [pt_append this.1 this.2]; rfl
  rw [if_neg k5, if_neg k5]
  by_cases k6 : x.kind = 6
  · rw [if_pos k6, if_pos k6]; rfl
  rw [if_neg k6, if_neg k6]
  by_cases k7 : x.kind = 7
  · rw [if_pos k7, if_pos k7]; rfl
  rw [if_neg k7, if_neg k7]
  by_cases k8 : x.kind = 8
  · rw [if_pos k8, if_pos k8]; rfl
  rw [if_neg k8, if_neg k8]
  by_cases k9 : x.kind = 9
  · rw [if_pos k9, if_pos k9]
    by_cases hz : back.length = 0
    · rw [if_pos hz, if_pos hz]; rfl
    · rw [if_neg hz, if_neg hz]; rfl
  rw [if_neg k9, if_neg k9]
  rfl
theorem runF_wide {code z : List Mi} {cells : Int} {e : List Int} (hf : CodeFine code cells) (hn : ∀ x ∈ code, 0 ≤ x.n ∧ x.n < 4294967296) : ∀ (f : Nat) (s : MSt) (out : List Leak), MOk code cells s →
    runF (code ++ z) f (s.wide e) out = (runF code f s out).map (fun r => (r.1.wide e, r.2)) := by
  intro f
  induction f with
  | zero => intro s out h; unfold runF; show (if s.over = true then _ else _) = _; split <;> rfl
  | succ f ih =>
    intro s out h
    cases ho : s.over
    · cases hfar : s.far
      · rw [runF_step (s := s.wide e) ho hfar, runF_step ho hfar]
        have hx := atC_some h.p0 (h.p1 ho)
        obtain ⟨hmi, hc, hj, hl⟩ := mw_zero (hf.each _ _ hx)
        have hxn := hn _ (List.mem_of_getElem? hx)
        have hm := h.mem
        have e1 : stepE (code ++ z) (s.wide e) = (stepE code s).wide e := by
          unfold stepE
          rw [show (s.wide e).pos = s.pos from rfl, atC_append h.p0 (h.p1 ho)]
          exact do_wide (fun hk => ⟨hxn.1, by have := hc hk; omega⟩)
        have e2 : leakE (code ++ z) (s.wide e) = leakE code s := by
          unfold leakE
          rw [show (s.wide e).pos = s.pos from rfl, atC_append h.p0 (h.p1 ho)]
        rw [e1, e2]
        exact ih _ _ (step_ok hf hn h ho hfar)
      · rw [runF_far (s := s.wide e) ho hfar, runF_far ho hfar]; rfl
    · rw [runF_over (s := s.wide e) ho, runF_over ho]; rfl
theorem putAt_append {l z xs : List Int} {c : Nat} (h : c + xs.length ≤ l.length) : putAt (l ++ z) c xs = putAt l c xs ++ z := by
  unfold putAt
  rw [List.take_append_of_le_length (by omega), List.drop_append_of_le_length (by omega)]
  simp only [List.append_assoc]
theorem putAt_length {l xs : List Int} {c : Nat} (h : c + xs.length ≤ l.length) : (putAt l c xs).length = l.length := by
  unfold putAt
  simp only [List.length_append, List.length_take, List.length_drop]
  omega
theorem wordsN_cons (t : Ty) (ps : List Ty) : wordsN (t :: ps) = (if t.len = 0 then 1 else 0) + wordsN ps := by
  simp only [wordsN, List.countP_cons, beq_iff_eq]
  split <;> omega
theorem cellsN_cons (t : Ty) (ps : List Ty) : cellsN (t :: ps) = t.len + cellsN ps := by simp [cellsN]
theorem lay_append {z : List Int} : ∀ (ps : List Ty) (args : List Int) (w c : Nat) (mem : List Int), (∀ t ∈ ps, 0 ≤ t.len ∧ t.len ≤ 16) → w + wordsN ps ≤ mem.length → c + (cellsN ps).toNat ≤ mem.length →
    layE ps args w c (mem ++ z) = layE ps args w c mem ++ z := by
  intro ps
  induction ps with
  | nil => intro args w c mem _ _ _; rfl
  | cons t ps ih =>
    intro args w c mem hl hw hc
    have ht := hl t List.mem_cons_self
    have hb := cellsN_bd ps (fun t ht => hl t (List.mem_cons_of_mem _ ht))
    rw [wordsN_cons] at hw
    rw [cellsN_cons] at hc
    unfold layE
    by_cases e : t.len = 0
    · rw [if_pos e] at hw ⊢
      rw [if_pos e, List.set_append_left _ _ (by omega)]
      exact ih _ _ _ _ (fun t ht => hl t (List.mem_cons_of_mem _ ht)) (by rw [List.length_set]; omega) (by rw [List.length_set]; omega)
    · rw [if_neg e] at hw ⊢
      have hlt : (args.take t.len.toNat).length ≤ t.len.toNat := List.length_take_le _ _
      rw [if_neg e, putAt_append (by omega)]
      exact ih _ _ _ _ (fun t ht => hl t (List.mem_cons_of_mem _ ht)) (by rw [putAt_length (by omega)]; omega) (by rw [putAt_length (by omega)]; omega)
theorem lay_length : ∀ (ps : List Ty) (args : List Int) (w c : Nat) (mem : List Int), (∀ t ∈ ps, 0 ≤ t.len ∧ t.len ≤ 16) → c + (cellsN ps).toNat ≤ mem.length → (layE ps args w c mem).length = mem.length := by
  intro ps
  induction ps with
  | nil => intro args w c mem _ _; rfl
  | cons t ps ih =>
    intro args w c mem hl hc
    have ht := hl t List.mem_cons_self
    have hb := cellsN_bd ps (fun t ht => hl t (List.mem_cons_of_mem _ ht))
    rw [cellsN_cons] at hc
    unfold layE
    by_cases e : t.len = 0
    · rw [if_pos e, ih _ _ _ _ (fun t ht => hl t (List.mem_cons_of_mem _ ht)) (by rw [List.length_set]; omega), List.length_set]
    · have hlt : (args.take t.len.toNat).length ≤ t.len.toNat := List.length_take_le _ _
      rw [if_neg e, ih _ _ _ _ (fun t ht => hl t (List.mem_cons_of_mem _ ht)) (by rw [putAt_length (by omega)]; omega), putAt_length (by omega)]
theorem lay_u32 : ∀ (ps : List Ty) (args : List Int) (w c : Nat) (mem : List Int), (∀ r ∈ args, u32 r) → (∀ r ∈ mem, u32 r) → ∀ r ∈ layE ps args w c mem, u32 r := by
  intro ps
  induction ps with
  | nil => intro args w c mem _ h r hr; exact h r hr
  | cons t ps ih =>
    intro args w c mem ha hm r hr
    unfold layE at hr
    split at hr
    · refine ih _ _ _ _ (fun q hq => ha q (List.mem_of_mem_drop hq)) (fun q hq => ?_) r hr
      rcases List.mem_or_eq_of_mem_set hq with h | h
      · exact hm q h
      · rw [h]
        cases args with
        | nil => exact ⟨by decide, by decide⟩
        | cons a l => exact ha a List.mem_cons_self
    · refine ih _ _ _ _ (fun q hq => ha q (List.mem_of_mem_drop hq)) (fun q hq => ?_) r hr
      unfold putAt at hq
      rcases List.mem_append.1 hq with hq | hq
      · rcases List.mem_append.1 hq with hq | hq
        · exact hm q (List.mem_of_mem_take hq)
        · exact ha q (List.mem_of_mem_take hq)
      · exact hm q (List.mem_of_mem_drop hq)
theorem findE_snoc (l : List Entry) (z : Entry) (n : ByteArray) (h : z.name ≠ n) : findE (l ++ [z]) n = findE l n := by
  induction l with
  | nil => show (match findE [] n with | some y => some y | none => _) = _; simp [findE, h]
  | cons x l ih => rw [List.cons_append]; unfold findE; rw [ih]
theorem findE_mem {l : List Entry} {n : ByteArray} {x : Entry} (h : findE l n = some x) : x ∈ l ∧ x.name = n := by
  induction l with
  | nil => cases h
  | cons y l ih =>
    unfold findE at h
    cases hf : findE l n with
    | some q =>
      rw [hf] at h
      simp only [Option.some.injEq] at h
      have := ih (by rw [hf, h])
      exact ⟨List.mem_cons_of_mem _ this.1, this.2⟩
    | none =>
      rw [hf] at h
      simp only at h
      split at h
      · injection h with h; subst h; exact ⟨List.mem_cons_self, ‹_›⟩
      · cases h
/-- What an entry that may be says. -/
structure EntFine (x : Entry) (len : Nat) (mem : Int) : Prop where
  name : namedB x.name = true
  lens : LensOk x.params
  p6 : x.params.length ≤ 6
  p0 : 0 ≤ x.pos
  p1 : x.pos < len
  b0 : 0 ≤ x.base
  b1 : x.base ≤ mem
  c0 : (wordsN x.params : Int) + cellsN x.params ≤ x.cells
  c1 : x.cells ≤ mem - x.base
theorem ent_iff {x : Entry} {len : Nat} {mem : Int} : entB x len mem = true ↔ EntFine x len mem := by
  unfold entB
  simp only [Bool.and_eq_true, decide_eq_true_eq, List.all_eq_true, lenOk]
  constructor
  · rintro ⟨⟨⟨h1, h2⟩, h3⟩, h4, h5, h6, h7, h8, h9⟩
    exact ⟨h1, ⟨by omega, h3⟩, h2, h4, h5, h6, h7, h8, h9⟩
  · rintro ⟨h1, ⟨_, h3⟩, h2, h4, h5, h6, h7, h8, h9⟩
    exact ⟨⟨⟨h1, h2⟩, h3⟩, h4, h5, h6, h7, h8, h9⟩
structure ImgFine (m : Image) : Prop where
  code : CodeFine m.code m.mem
  ents : ∀ x ∈ m.entries, EntFine x m.code.length m.mem
  rise : risesB ⟨#[]⟩ m.entries = true
theorem img_iff {m : Image} : imgB m = true ↔ ImgFine m := by
  unfold imgB
  simp only [Bool.and_eq_true, decide_eq_true_eq, List.all_eq_true]
  constructor
  · rintro ⟨⟨h1, h2⟩, h3⟩
    exact ⟨fine_of h1, fun x hx => ent_iff.1 (h2 x hx), h3⟩
  · rintro ⟨h1, h2, h3⟩
    exact ⟨⟨of_fine h1, fun x hx => ent_iff.2 (h2 x hx)⟩, h3⟩
theorem mem0_length {m : Image} {x : Entry} {args : List Int} (hx : EntFine x m.code.length m.mem) (hc : CodeFine m.code m.mem) : (mem0 m x args).length = m.mem.toNat := by
  have h1 := cellsN_bd x.params hx.lens.2
  have h2 := hx.b0; have h3 := hx.b1; have h4 := hx.c0; have h5 := hx.c1
  unfold mem0
  rw [lay_length _ _ _ _ _ hx.lens.2 (by rw [List.length_replicate]; omega), List.length_replicate]
theorem st0_ok {m : Image} {x : Entry} {args : List Int} (hx : EntFine x m.code.length m.mem) (hc : CodeFine m.code m.mem) (ha : ∀ r ∈ args, u32 r) : MOk m.code m.mem (st0 m x args) := by
  have h0 := hc.c0
  refine ⟨by simp [st0], ?_, ?_, ?_, by simp [st0], fun _ => by simp [st0], fun p hp => by simp [st0] at hp, hx.p0, fun _ => hx.p1⟩
  · show ((mem0 m x args).length : Int) = _
    rw [mem0_length hx hc]; omega
  · intro r hr
    have hr' : r ∈ List.replicate 8 (0 : Int) := hr
    rw [(List.mem_replicate.1 hr').2]; exact ⟨by decide, by decide⟩
  · intro r hr
    refine lay_u32 _ _ _ _ _ ha (fun q hq => ?_) r hr
    rw [(List.mem_replicate.1 hq).2]; exact ⟨by decide, by decide⟩

/-! ### ExecMore -/
def zName : ByteArray := ⟨#[122, 122, 122, 122, 122, 122, 122, 122, 122, 122, 122, 122, 46, 122, 122, 122, 122, 122, 122, 122, 122, 122, 122, 122, 122]⟩
theorem named_z : namedB zName = true := by decide +kernel
def moreI (m : Image) : Image := ⟨m.entries ++ [⟨zName, [], m.code.length, 0, 0⟩], m.code ++ [rets], m.mem + 9⟩
theorem mw_more {l : List Mi} {cells : Int} {k : Nat} {x : Mi} (h : mwE l.length cells k x = 0) : mwE (l.length + 1) (cells + 9) k x = 0 ∨ k + 1 = l.length + 1 := by
  obtain ⟨h1, h2, h3, h4⟩ := mw_zero h
  by_cases hk : k + 1 = l.length + 1
  · exact .inr hk
  · left
    unfold mwE
    rw [if_neg (by rw [h1]; decide), if_neg (by omega), if_neg (by omega), if_neg (by omega)]
theorem more_code {m : Image} (h : CodeFine m.code m.mem) (hm : m.mem ≤ 4000) (hl : m.code.length ≤ 19000) : CodeFine (moreI m).code (moreI m).mem := by
  have h0 := h.c0
  refine ⟨by simp [moreI], by simp [moreI]; omega, by simp only [moreI]; omega, by simp only [moreI]; omega, fun k x hx => ?_⟩
  simp only [moreI] at hx ⊢
  rw [List.length_append, List.length_singleton]
  by_cases hk : k < m.code.length
  · rw [List.getElem?_append_left hk] at hx
    rcases mw_more (h.each k x hx) with h | h
    · exact h
    · omega
  · rw [List.getElem?_append_right (by omega)] at hx
    have hk2 := (List.getElem?_eq_some_iff.1 hx).1
    rw [List.length_singleton] at hk2
    obtain rfl : k = m.code.length := by omega
    rw [Nat.sub_self] at hx
    obtain rfl : rets = x := by simpa using hx
    unfold mwE
    rw [if_neg (by decide), if_neg (by simp [rets]), if_neg (by simp [rets]), if_neg (by simp [rets])]
theorem rises_snoc {z : Entry} : ∀ (l : List Entry) (last : ByteArray), risesB last l = true → Op.bytesLess (lastN last l).toList z.name.toList = true → risesB last (l ++ [z]) = true := by
  intro l
  induction l with
  | nil => intro last _ h; have h' : Op.bytesLess last.toList z.name.toList = true := h; simp [risesB, h']
  | cons x l ih =>
    intro last h hz
    unfold risesB at h
    rw [Bool.and_eq_true] at h
    rw [List.cons_append]
    unfold risesB
    rw [h.1, Bool.true_and]
    exact ih x.name h.2 hz
theorem more_img {m : Image} (h : imgB m = true) (hm : m.mem ≤ 4000) (hl : m.code.length ≤ 19000) (hz : Op.bytesLess (lastN ⟨#[]⟩ m.entries).toList zName.toList = true) : imgB (moreI m) = true := by
  have hf := img_iff.1 h
  refine img_iff.2 ⟨more_code hf.code hm hl, fun x hx => ?_, rises_snoc _ _ hf.rise hz⟩
  simp only [moreI] at hx ⊢
  rw [List.length_append, List.length_singleton]
  rcases List.mem_append.1 hx with hx | hx
  · have e := hf.ents x hx
    exact ⟨e.name, e.lens, e.p6, e.p0, by have := e.p1; omega, e.b0, by have := e.b1; omega, e.c0, by have := e.c1; omega⟩
  · rw [List.mem_singleton.1 hx]
    have h0 := hf.code.c0
    exact ⟨named_z, ⟨by simp, by simp⟩, by simp, by simp, by simp only; omega, by simp, by simp only; omega, by simp [wordsN, cellsN], by simp only; omega⟩
theorem more_tells {m : Image} {name : ByteArray} {args : List Int} (h : imgB m = true) (hm : m.mem ≤ 4000) (hl : m.code.length ≤ 19000) (hz : Op.bytesLess (lastN ⟨#[]⟩ m.entries).toList zName.toList = true) (hname : name ≠ zName)
    (hn : ∀ x ∈ m.code, 0 ≤ x.n ∧ x.n < 4294967296) (ha : ∀ r ∈ args, u32 r) : tellE (moreI m) name args = tellE m name args := by
  have hf := img_iff.1 h
  unfold tellE
  rw [more_img h hm hl hz, h, if_neg (by decide), if_neg (by decide)]
  rw [show (moreI m).entries = m.entries ++ [⟨zName, [], m.code.length, 0, 0⟩] from rfl, findE_snoc _ _ _ (by exact fun e => hname e.symm)]
  cases hx : findE m.entries name with
  | none => rfl
  | some x =>
    simp only
    split
    · rfl
    · have he := hf.ents x (findE_mem hx).1
      have h1 := cellsN_bd x.params he.lens.2
      have h2 := he.b0; have h3 := he.b1; have h4 := he.c0; have h5 := he.c1; have h6 := hf.code.c0
      have e1 : mem0 (moreI m) x args = mem0 m x args ++ List.replicate 9 0 := by
        unfold mem0
        rw [← lay_append _ _ _ _ _ he.lens.2 (by rw [List.length_replicate]; omega) (by rw [List.length_replicate]; omega)]
        rw [show List.replicate m.mem.toNat (0 : Int) ++ List.replicate 9 0 = List.replicate (moreI m).mem.toNat 0 by rw [List.replicate_append_replicate]; congr 1; simp only [moreI]; omega]
      have e2 : st0 (moreI m) x args = (st0 m x args).wide (List.replicate 9 0) := by unfold st0 MSt.wide; rw [e1]
      rw [e2, show (moreI m).code = m.code ++ [rets] from rfl, runF_wide hf.code hn _ _ _ (st0_ok he hf.code ha)]
      cases hr : runF m.code 1500000 (st0 m x args) [] with
      | none => rfl
      | some r => 
        obtain ⟨s, out⟩ := r
        have hk := (runF_ok hf.code hn _ _ _ (st0_ok he hf.code ha) hr).1.mem
        simp only [Option.map_some, toldE, MSt.wide]
        have e3 : x.base.toNat + wordsN x.params + (cellsN x.params).toNat ≤ s.mem.length := by omega
        rw [List.drop_append_of_le_length (by omega), List.take_append_of_le_length (by rw [List.length_drop]; omega)]
end Go.Proofs.Ytddnbpgibfmolaa
