/- A map from names of the call's own, whatever its elements; rows of words that are laid. -/
import Derived.Test.YtddnbpgibfmolaaX10
import Derived.Test.YtddnbpgibfmolaaX5
import Derived.Maps.OwnSet
import Derived.Laws.CopyRow
import Derived.Deep.OwnRows
namespace Go.Proofs.Ytddnbpgibfmolaa
open Go.RowKit Go.Proofs.YtddnbpgibfmolaaW.PrintWords Go.Maps
set_option linter.unusedVariables false

/-- An element reads as itself. -/
def hElem (v : Value) : Option (DataW Value × List MemPlace) := some (.held v, [])
theorem hElem_inj {v v' : Value} {ps : List MemPlace} (h : hElem v = some (.held v', ps)) : v = v' := by
  unfold hElem at h
  simp only [Option.some.injEq, Prod.mk.injEq, DataW.held.injEq] at h
  exact h.1
abbrev sLit (s : ByteArray) : Lit := .string s.data.toList
theorem law_str : Keyed Try.prog 9 := string_keyed Try.underlying9
theorem keyOf_str {s : ByteArray} (h : s.size ≤ maxLen) : keyOf Try.prog 9 (.string s) = some (sLit s) := by
  simp [keyOf, Try.underlying9, mapKey, h]
theorem isKey_str (s : ByteArray) : WideAt.IsKeyLit (sLit s) := by simp [sLit, WideAt.IsKeyLit]
theorem sLit_ne {s q : ByteArray} (h : s ≠ q) : sLit s ≠ sLit q := fun e => h (by
  injection e with e
  cases s; cases q
  congr 1
  exact Array.ext' e)
def HoldsS (D : DataW Value) (f : ByteArray → Option Value) : Prop := ∀ k, Maps.has D (sLit k) = (f k).isSome ∧ ∀ z, D.atKey (sLit k) z = (match f k with | some v => .held v | none => z)
/-- Block b is a map of at most n entries, from names, that holds f. -/
def SMp (w : World) (b n : Nat) (f : ByteArray → Option Value) : Prop := ∃ D : DataW Value, w.ownsMap Try.prog 9 hElem b n D ∧ HoldsS D f
theorem SMp_made (w : World) : SMp (w.alloc (.map #[] 0)) w.heap.size 0 (fun _ => none) := ⟨_, World.ownsMap_made _ _ _ _, fun k => ⟨rfl, fun z => rfl⟩⟩
def updS (f : ByteArray → Option Value) (k : ByteArray) (v : Value) : ByteArray → Option Value := fun q => if q = k then some v else f q
theorem HoldsS.put {D : DataW Value} {f : ByteArray → Option Value} (h : HoldsS D f) (hm : IsMap D) (k : ByteArray) (v : Value) : HoldsS (D.put (sLit k) (.held v)) (updS f k v) := by
  intro q
  unfold updS
  by_cases hq : q = k
  · subst hq
    rw [if_pos rfl]
    exact ⟨has_put_same hm (isKey_str q) _, fun z => atKey_put_same hm (isKey_str q) _ z⟩
  · rw [if_neg hq]
    refine ⟨(has_put_other (sLit_ne hq) _).trans (h q).1, fun z => ?_⟩
    rw [atKey_put_other (sLit_ne hq)]
    exact (h q).2 z
theorem owns_map {k : TypeId} {w : World} {b n : Nat} {D : DataW Value} (h : w.ownsMap Try.prog k hElem b n D) : IsMap D := by
  obtain ⟨es, clock, _, _, _, rfl⟩ := h
  exact ⟨_, rfl⟩
section
variable {w w1 : World} {b n : Nat} {f : ByteArray → Option Value}
theorem SMp.kept (h : SMp w b n f) {row : Option Nat} (hg : w.grownBy w1 row) (hne : some b ≠ row) : SMp w1 b n f := by
  obtain ⟨D, h1, h2⟩ := h
  exact ⟨D, h1.kept hg hne, h2⟩
theorem SMp.alloc (h : SMp w b n f) (o : Go.Obj) : SMp (w.alloc o) b n f := h.kept (World.grownBy_alloc w o none) (by simp)
theorem SMp.lt (h : SMp w b n f) : b < w.heap.size := by
  obtain ⟨D, h1, _⟩ := h
  exact h1.lt
/-- 'v, ok := m[k]'. -/
theorem SMp.look {t e : TypeId} (h : SMp w b n f) (ht : Try.prog.underlying t = some (.map 9 e)) {z : Value} (hz : (zeroValue e).run Try.prog w = .ok z w) {k : ByteArray} (hk : k.size ≤ maxLen) :
    (Instr.lookup t (.map (some b)) (.string k) true).run Try.prog w = .ok (.tuple #[(f k).getD z, .bool (f k).isSome]) w := by
  obtain ⟨D, h1, h2⟩ := h
  obtain ⟨v, ps, hrun, hv⟩ := h1.look_ok law_str ht hz (zd := .held z) (zp := []) rfl (keyOf_str hk)
  rw [hrun, (h2 k).1]
  rw [(h2 k).2] at hv
  cases hf : f k with
  | none => rw [hf] at hv; rw [hElem_inj hv]; rfl
  | some x => rw [hf] at hv; rw [hElem_inj hv]; rfl
end
section
variable {W : World} {ops : Array Oper} {rest : List Oper} {o : Oper} {a : Act} {Q : Exit → Act → World → Prop}
/-- 'm[k] = v', in a plain region. -/
theorem list_put {t e : TypeId} (hg : o.guard = none) (m x v : Operand) (hop : o.op = Op.mapUpdate t m x v) (ht : Try.prog.underlying t = some (.map 9 e)) (b n : Nat) (f : ByteArray → Option Value)
    (hm : a.eval m = .map (some b)) (hown : SMp W b n f) (hn : n < maxLen) (k : ByteArray) (hk : k.size ≤ maxLen) (hx : a.eval x = .string k) (y : Value) (hy : a.eval v = y)
    (h : ∀ w1, SMp w1 b (n + 1) (updS f k y) → W.grownBy w1 (some b) → wpList Try.prog ops Q rest (a.put o.dst undef) w1) : wpList Try.prog ops Q (o :: rest) a W := by
  obtain ⟨D, h1, h2⟩ := hown
  exact wpList_mapUpdate_own W hg m x v t hop 9 e law_str ht hElem b n D hm h1 hn (.string k) y (sLit k) hx hy (keyOf_str hk) (.held y) [] rfl (fun w1 hO hG => h w1 ⟨_, hO, h2.put (owns_map h1) k y⟩ hG)
end
/-- What the map of entries holds. -/
def FOk (w : World) (l : List Entry) (f : ByteArray → Option Value) : Prop := ∀ s, match findE l s with
  | none => f s = none
  | some x => ∃ A c, f s = some (entV x A c) ∧ Kd.C kTy w A x.params.length x.params ∧ x.params.length ≤ c
theorem findE_snoc' (l : List Entry) (z : Entry) (n : ByteArray) : findE (l ++ [z]) n = if z.name = n then some z else findE l n := by
  induction l with
  | nil => show (match findE [] n with | some y => some y | none => _) = _; simp [findE]
  | cons x l ih =>
    rw [List.cons_append]
    unfold findE
    rw [ih]
    by_cases h : z.name = n
    · simp [h]
    · simp [h]
theorem FOk.snoc {w : World} {l : List Entry} {f : ByteArray → Option Value} {x : Entry} {A : Option Addr} {c : Nat} (h : FOk w l f) (hC : Kd.C kTy w A x.params.length x.params) (hc : x.params.length ≤ c) : FOk w (l ++ [x]) (updS f x.name (entV x A c)) := by
  intro s
  rw [findE_snoc']
  unfold updS
  by_cases hs : x.name = s
  · subst hs
    rw [if_pos rfl, if_pos rfl]
    exact ⟨A, c, rfl, hC, hc⟩
  · rw [if_neg hs, if_neg (fun e => hs e.symm)]
    exact h s
/-! ### rows of words -/
theorem made_words (n : Nat) : madeCells #[Value.int .u32 0] n = ((List.replicate n (0 : Int)).map (Value.int .u32)).toArray := by
  unfold madeCells
  apply Array.ext
  · simp
  · intro i h1 h2
    simp [Nat.mod_one]
theorem info_u32 : (Try.prog.info? 25).map (fun i => (i.zero, i.size, i.bytes)) = some (some (.int .u32 0), 1, 4) := by kernel_rfl
theorem make_words (n : Nat) (hn : n ≤ 1000000) (w : World) : (Instr.makeSlice 22 (.int .i64 (n : Int)) (.int .i64 (n : Int))).run Try.prog w = .ok (.slice (some ⟨w.heap.size, 0, none⟩) n n) (w.alloc (.cells ((List.replicate n (0 : Int)).map (Value.int .u32)).toArray 25)) := by
  rw [← made_words]
  exact run_make_row' (P := Try.prog) 22 25 (.int .u32 0) 4 Try.underlying22 info_u32 rfl .i64 .i64 n (by omega) (by omega) w
/-- What a run tells, as a call's results. -/
def RetTold (w : World) (r : Told) (e : Ending) (w' : World) : Prop := ∃ A c A2 c2, e = .returned (.tuple #[.agg #[.int .u32 r.res, .slice A r.arrs.length c], .slice A2 r.leaks.length c2, .int .i64 r.err]) ∧ Kd.C (Kd.int .u32) w' A r.arrs.length r.arrs ∧ Kd.C kLeak w' A2 r.leaks.length r.leaks ∧ Below w.heap.size w w'
/-- The run's memory ahead of the run itself. -/
structure PW (w3 w : World) (B : Nat) (cv : Value) (p : Int) (mem : List Int) : Prop where
  base : w3.heap.size = B
  below : Below B w3 w
  box : w.heap[B + 1]? = some (.cells #[cv, .slice (some ⟨B, 0, none⟩) mem.length mem.length, .int .u32 0, .int .u32 0, .int .u32 0, .int .u32 0, .int .u32 0, .int .u32 0, .int .u32 0, .int .u32 0, .slice none 0 0, .int .i64 p, .bool false, .bool false] 76 (0, 0))
  row : w.heap[B]? = some (.cells (mem.map (Value.int .u32)).toArray 25 (0, 0))
section
variable {w3 w w1 : World} {B : Nat} {cv : Value} {p : Int} {mem : List Int}
theorem PW.same (h : PW w3 w B cv p mem) (hb : Below w.heap.size w w1) : PW w3 w1 B cv p mem :=
  ⟨h.base, h.below.trans (hb.mono (by have := h.below.size; have := h.base; omega)), blk_below h.box hb, blk_below h.row hb⟩
theorem PW.put (h : PW w3 w B cv p mem) (n : Nat) (v : Int) : PW w3 (w.setCell ⟨B, n, none⟩ (.int .u32 v)) B cv p (mem.set n v) := by
  have hm := blk_put h.row n (.int .u32 v) rfl
  have e : ((mem.map (Value.int .u32)).toArray.setIfInBounds n (.int .u32 v)) = ((mem.set n v).map (Value.int .u32)).toArray := by
    apply Array.ext'
    simp
  rw [e] at hm
  refine ⟨h.base, h.below.setCell (Nat.le_refl _) _, ?_, hm⟩
  rw [List.length_set]
  exact blk_far h.box (by show B + 1 ≠ B; omega) _
theorem PW.lay (h : PW w3 w B cv p mem) (c : Nat) (xs : List Int) (hc : c + xs.length ≤ mem.length) : PW w3 (w.setRow B ((mem.map (Value.int .u32)).toArray.toList.take c ++ (xs.map (Value.int .u32) ++ (mem.map (Value.int .u32)).toArray.toList.drop (c + (xs.map (Value.int .u32)).length))).toArray) B cv p (putAt mem c xs) := by
  have e : ((mem.map (Value.int .u32)).toArray.toList.take c ++ (xs.map (Value.int .u32) ++ (mem.map (Value.int .u32)).toArray.toList.drop (c + (xs.map (Value.int .u32)).length))).toArray = ((putAt mem c xs).map (Value.int .u32)).toArray := by
    unfold putAt
    simp [List.map_take, List.map_drop, List.append_assoc]
  rw [e]
  refine ⟨h.base, ⟨h.below.os, h.below.tape, h.below.output, ?_, fun k hk => ?_⟩, ?_, setRow_heap _ _ _ _ _ _ h.row⟩
  · rw [setRow_size]; exact h.below.size
  · rw [setRow_other _ _ _ _ (by omega)]; exact h.below.block k hk
  · rw [setRow_other _ _ _ _ (by omega), putAt_length hc]; exact h.box
end
section
variable {ops : Array Oper} {o : Oper} {a : Act} {Q : Exit → Act → World → Prop} {K : Act → World → Prop} {W w3 w0 : World}
theorem step_plain' (hgd : o.guard = none) (h : Oper.wp Try.prog o a W K Q) : if Region.wanted o (yielded ops a.tmps) = true then Oper.wp Try.prog o a W K Q else K (a.put o.dst undef) W := by
  rw [if_pos (by simp [Region.wanted, hgd])]; exact h
/-- copy(mem[c:], xs), as one step of a region that draws its order. -/
theorem step_copy (hgd : o.guard = none) (d s : Operand) (ho : o.op = .call { callee := .builtin .copy, args := #[d, s], argTypes := #[22, 22] })
    (B c dLen dCap sCap : Nat) (ad : Addr) (xs mem : List Int) (cv : Value) (p : Int) (hd : a.eval d = .slice (some ⟨B, c, none⟩) dLen dCap) (hs : a.eval s = .slice (some ad) xs.length sCap) (hP : PW w3 W B cv p mem) (hfit : c + xs.length ≤ mem.length) (hl : xs.length ≤ dLen)
    (hC : Kd.C (Kd.int .u32) W (some ad) xs.length xs) (h : ∀ w1, PW w3 w1 B cv p (putAt mem c xs) → (∀ k, k ≠ B → w1.heap[k]? = W.heap[k]?) → K (a.put o.dst (goInt xs.length)) w1) :
    if Region.wanted o (yielded ops a.tmps) = true then Oper.wp Try.prog o a W K Q else K (a.put o.dst undef) W := by
  refine step_plain' hgd ?_
  have hlen : (xs.map (Value.int .u32)).length = xs.length := by simp
  have hrun := run_copy_row (P := Try.prog) W 22 22 o.type 25 B c dLen dCap ad xs.length sCap (mem.map (Value.int .u32)).toArray 25 (xs.map (Value.int .u32)) Try.underlying22 (by kernel_rfl) hP.row (by rw [hlen]; exact (Nat.min_eq_left hl).symm)
    (fun j v hj => by
      rw [List.getElem?_map] at hj
      cases hx : xs[j]? with
      | none => rw [hx] at hj; cases hj
      | some x =>
        rw [hx] at hj
        injection hj with hj
        subst hj
        have hjl := (List.getElem?_eq_some_iff.1 hx).1
        obtain ⟨ad', y, e, hy, hc⟩ := nt_scalar hC (Below.refl _ _) j hjl
        injection e with e
        subst e
        rw [hx] at hy
        injection hy with hy
        subst hy
        exact hc) (by rw [hlen]; simp; exact hfit) (fun v hv => by
      obtain ⟨x, _, rfl⟩ := List.mem_map.1 hv
      rfl)
  have hPl := hP.lay c xs hfit
  rw [← List.append_assoc] at hPl
  rw [hlen] at hrun hPl
  unfold Oper.wp execOp
  simp only [ho, resolve, invoke, builtin, Sem.run_bind, Sem.run_pure, Result.andThen_ok, List.map_toArray, List.map_cons, List.map_nil, hd, hs, hrun]
  exact h _ hPl (fun k hk => setRow_other _ _ _ _ hk)
abbrev OwnU (W : World) (base : Nat) (v : Value) (xs : List Int) : Prop := (Kd.int .u32).R 25 W base (fun _ => True) v xs
theorem ownU_empty {W : World} {base g : Nat} (h : W.heap[g]? = some (.cells #[] 25 (0, 0))) (hb : base ≤ g) : OwnU W base (.slice (some ⟨g, 0, none⟩) 0 0) [] :=
  Kd.R_of_own ⟨rfl, .inr ⟨g, 0, #[], rfl, hb, h, Nat.le_refl _, by simp [maxLen], rfl, rfl⟩⟩ (fun _ _ => trivial)
/-- append(v, l...) of words, as one step of a region that draws its order. -/
theorem step_appU (base : Nat) (hgd : o.guard = none) (s x : Operand) (ho : o.op = .call { callee := .builtin .append, args := #[s, x], argTypes := #[22, 22] })
    (v : Value) (xs ys : List Int) (A : Option Addr) (c : Nat) (hs : a.eval s = v) (hx : a.eval x = .slice A ys.length c) (HO : OwnU W base v xs) (HC : Kd.C (Kd.int .u32) W A ys.length ys) (HB : Below base w0 W) (hbase : base ≤ W.heap.size) (hl : xs.length + ys.length ≤ 100000)
    (h : ∀ v1 w1, OwnU w1 base v1 (xs ++ ys) → Below base w0 w1 → W.grownBy w1 v.ownBlock → K (a.put o.dst v1) w1) :
    if Region.wanted o (yielded ops a.tmps) = true then Oper.wp Try.prog o a W K Q else K (a.put o.dst undef) W := by
  refine Kd.R_append_rows_step (Kd.int .u32) (Rr := fun y cs => cs = [.int .u32 y]) (w0 := w0) base (by simp [Region.wanted, hgd]) s x 22 25 (.int .u32 0) 4 ho Try.underlying22 info_u32 rfl (by decide) (by decide) v xs ys A ys.length c (fun _ => True) (fun _ => False) hs hx HO HC (fun _ _ h => h) (fun _ h => h.elim) (fun _ _ => trivial) HB hbase (by omega) ?_
  intro v1 w1 h1 h2 h3 _
  exact h v1 w1 h1 h2 h3
end
/-- What is left of arguments. -/
theorem args_drop {w : World} {A : Option Addr} {c : Nat} {xs : List Int} (h : Kd.C (Kd.int .u32) w A xs.length xs) (hc : xs.length ≤ c) (j : Nat) (hj : j ≤ xs.length) :
    ∃ A' : Option Addr, (∀ W : World, (Instr.slice 22 (.slice A xs.length c) (some (.int .i64 j)) none none).run Try.prog W = .ok (.slice A' (xs.drop j).length (c - j)) W) ∧ Kd.C (Kd.int .u32) w A' (xs.drop j).length (xs.drop j) ∧ (xs.drop j).length ≤ c - j := by
  obtain ⟨i0, hi, hzz⟩ := Option.map_eq_some_iff.1 info_u32
  simp only [Prod.mk.injEq] at hzz
  obtain ⟨A', h1, h2, h3⟩ := print_drop_of (P := Try.prog) (Value.int .u32) (0 : Int) 22 25 .i64 Try.underlying22 hi hzz.2.1 A c xs (j : Int) (by omega) (by omega) hc
  exact ⟨A', h1, Kd.C_of_reads (h2 w (Kd.reads_of_C h)), h3⟩
theorem args_take {w : World} {A : Option Addr} {c : Nat} {xs : List Int} (h : Kd.C (Kd.int .u32) w A xs.length xs) (hc : xs.length ≤ c) (j : Nat) (hj : j ≤ xs.length) :
    (∀ W : World, (Instr.slice 22 (.slice A xs.length c) none (some (.int .i64 j)) none).run Try.prog W = .ok (.slice A (xs.take j).length c) W) ∧ Kd.C (Kd.int .u32) w A (xs.take j).length (xs.take j) := by
  obtain ⟨i0, hi, hzz⟩ := Option.map_eq_some_iff.1 info_u32
  simp only [Prod.mk.injEq] at hzz
  obtain ⟨h1, h2, h3⟩ := print_take_of (P := Try.prog) (Value.int .u32) (0 : Int) 22 25 .i64 Try.underlying22 hi hzz.2.1 A c xs (j : Int) (by omega) (by omega) hc
  exact ⟨h1, Kd.C_of_reads (h2 w (Kd.reads_of_C h))⟩
theorem mem_cut {B n c : Nat} (h : c < n) (W : World) : (Instr.slice 22 (.slice (some ⟨B, 0, none⟩) n n) (some (.int .i64 c)) none none).run Try.prog W = .ok (.slice (some ⟨B, c, none⟩) (n - c) (n - c)) W := by
  obtain ⟨i0, hi, hzz⟩ := Option.map_eq_some_iff.1 info_u32
  simp only [Prod.mk.injEq] at hzz
  have hel : Try.prog.elem 22 = 25 := by simp [Program.elem, Try.underlying22]
  have hu : Try.prog.underlying 22 = some (.slice (Try.prog.elem 22)) := by rw [hel]; exact Try.underlying22
  rw [run_slice_l W 22 (some ⟨B, 0, none⟩) n n hu .i64 (c : Int) (Int.natCast_nonneg _) (by omega), hel]
  have hne : ¬ n = c := by omega
  simp [sizeOf, typeInfo, hi, hzz.2.1, sliced, Result.andThen, hne, add_plain]
/-- mem[a:b], read. -/
theorem mem_mid {B a b : Nat} {xs : List Int} (h : a ≤ b) (hb : b ≤ xs.length) :
    ∃ A' : Option Addr, (∀ W : World, (Instr.slice 22 (.slice (some ⟨B, 0, none⟩) xs.length xs.length) (some (.int .i64 a)) (some (.int .i64 b)) none).run Try.prog W = .ok (.slice A' ((xs.take b).drop a).length (xs.length - a)) W) ∧
      (∀ w : World, Kd.C (Kd.int .u32) w (some ⟨B, 0, none⟩) xs.length xs → Kd.C (Kd.int .u32) w A' ((xs.take b).drop a).length ((xs.take b).drop a)) := by
  obtain ⟨i0, hi, hzz⟩ := Option.map_eq_some_iff.1 info_u32
  simp only [Prod.mk.injEq] at hzz
  obtain ⟨A', h1, h2, h3⟩ := print_mid_of (P := Try.prog) (Value.int .u32) (0 : Int) 22 25 .i64 .i64 Try.underlying22 hi hzz.2.1 (some ⟨B, 0, none⟩) xs.length xs (a : Int) (b : Int) (by omega) (by omega) (by omega) (Nat.le_refl _)
  exact ⟨A', h1, fun w h => Kd.C_of_reads (h2 w (Kd.reads_of_C h))⟩
theorem row_C {w : World} {B : Nat} {xs : List Int} (h : w.heap[B]? = some (.cells (xs.map (Value.int .u32)).toArray 25 (0, 0))) (hl : xs.length ≤ 1000000) : Kd.C (Kd.int .u32) w (some ⟨B, 0, none⟩) xs.length xs :=
  C_ints h (fun j x hx => by simp [hx]) (by omega)
/-- How far the laying of arguments has come. -/
structure LayI (params : List Ty) (M0 : List Int) (wE cE M i : Nat) (rest : List Int) (wi ci : Nat) (mem : List Int) : Prop where
  lay : layE (params.drop i) rest wi ci mem = M0
  cnt : rest.length = wordsN (params.drop i) + (cellsN (params.drop i)).toNat
  wl : wi + wordsN (params.drop i) = wE
  cl : ci + (cellsN (params.drop i)).toNat = cE
  ml : mem.length = M
section
variable {params : List Ty} {M0 : List Int} {wE cE M i : Nat} {rest : List Int} {wi ci : Nat} {mem : List Int} {t : Ty}
theorem LayI.word (h : LayI params M0 wE cE M i rest wi ci mem) (ht : params[i]? = some t) (hz : t.len = 0) (hwE : wE ≤ M) : LayI params M0 wE cE M (i + 1) (rest.drop 1) (wi + 1) ci (mem.set wi (rest.getD 0 0)) ∧ wi < mem.length ∧ 0 < rest.length := by
  obtain ⟨h1, h2, h3, h4, h5⟩ := h
  rw [drop_at ht] at h1 h2 h3 h4
  rw [wordsN_cons, if_pos hz] at h2 h3
  rw [cellsN_cons, hz, Int.zero_add] at h2 h4
  unfold layE at h1
  rw [if_pos hz] at h1
  exact ⟨⟨h1, by rw [List.length_drop]; omega, by omega, h4, by rw [List.length_set]; exact h5⟩, by omega, by omega⟩
theorem LayI.array (h : LayI params M0 wE cE M i rest wi ci mem) (ht : params[i]? = some t) (hz : ¬ t.len = 0) (h0 : 0 ≤ t.len) (hl : ∀ t ∈ params, 0 ≤ t.len ∧ t.len ≤ 16) (hcE : cE ≤ M) : LayI params M0 wE cE M (i + 1) (rest.drop t.len.toNat) wi (ci + t.len.toNat) (putAt mem ci (rest.take t.len.toNat)) ∧ ci + t.len.toNat ≤ mem.length ∧ t.len.toNat ≤ rest.length := by
  obtain ⟨h1, h2, h3, h4, h5⟩ := h
  have hb := cellsN_bd (params.drop (i + 1)) (fun t ht => hl t (List.mem_of_mem_drop ht))
  rw [drop_at ht] at h1 h2 h3 h4
  rw [wordsN_cons, if_neg hz] at h2 h3
  rw [cellsN_cons] at h2 h4
  unfold layE at h1
  rw [if_neg hz] at h1
  have hle : t.len.toNat ≤ rest.length := by omega
  have hfit : ci + t.len.toNat ≤ mem.length := by omega
  exact ⟨⟨h1, by rw [List.length_drop]; omega, by omega, by omega, by rw [putAt_length (by rw [List.length_take]; omega)]; exact h5⟩, hfit, hle⟩
theorem LayI.last (h : LayI params M0 wE cE M params.length rest wi ci mem) : mem = M0 ∧ wi = wE ∧ ci = cE := by
  obtain ⟨h1, h2, h3, h4, h5⟩ := h
  rw [List.drop_length] at h1 h2 h3 h4
  simp only [layE] at h1
  simp only [wordsN, List.countP_nil] at h3
  simp only [cellsN, List.map_nil, List.sum_nil, Int.toNat_zero] at h4
  exact ⟨h1, by omega, by omega⟩
end
end Go.Proofs.Ytddnbpgibfmolaa
