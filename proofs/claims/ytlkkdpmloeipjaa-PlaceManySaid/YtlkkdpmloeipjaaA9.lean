/- irun.wrong, on. -/
import Derived.Test.YtlkkdpmloeipjaaA8
import Derived.Deep.RegionLaw
namespace Go.Proofs.Ytlkkdpmloeipjaa
open Go.RowKit Go.Proofs.YtlkkdpmloeipjaaW.PrintWords
set_option linter.unusedVariables false

/-- The registers that an instruction reads or writes. -/
def usesL (x : Ir) : List Int := readsL x ++ if writesB x = true then [x.d] else []
theorem bad15_uses (c : Code) (x : Ir) : bad15 c x = (usesL x).any (outReg c) := by
  unfold bad15 usesL
  rw [List.any_append]
  cases writesB x <;> simp
theorem any_true {α : Type} {f : α → Bool} {xs : List α} {k : Nat} {x : α} (h : xs[k]? = some x) (hx : f x = true) : xs.any f = true :=
  List.any_eq_true.2 ⟨x, at_mem h, hx⟩
theorem any_snoc {α : Type} {f : α → Bool} {xs : List α} {k : Nat} {x : α} (h : xs[k]? = some x) (ha : (xs.take k).any f = false) (hx : f x = false) : (xs.take (k + 1)).any f = false := by
  rw [take_snoc_at h, List.any_append, ha]; simp [hx]
/-! ### ints of the call's own -/
/-- A slice of ints that the call itself has made. -/
abbrev OwnI (W : World) (base : Nat) (v : Value) (xs : List Int) : Prop := (Kd.int .i64).R 3 W base (fun _ => True) v xs
theorem own_empty {W : World} {base g : Nat} (h : W.heap[g]? = some (.cells #[] 3 (0, 0))) (hb : base ≤ g) : OwnI W base (.slice (some ⟨g, 0, none⟩) 0 0) [] :=
  Kd.R_of_own ⟨rfl, .inr ⟨g, 0, #[], rfl, hb, h, Nat.le_refl _, by simp [maxLen], rfl, rfl⟩⟩ (fun _ _ => trivial)
theorem infoI : (Try.prog.info? 3).map (fun i => (i.zero, i.size, i.bytes)) = some (some (.int .i64 0), 1, 8) := by kernel_rfl
section
variable {ops : Array Oper} {o : Oper} {a : Act} {Q : Exit → Act → World → Prop} {K : Act → World → Prop} {W w0 : World} {rest : List Oper}
/-- append(v, l...) of ints, as one step of a region that draws its order. -/
theorem step_app (base : Nat) (hgd : o.guard = none) (s x : Operand) (ho : o.op = .call { callee := .builtin .append, args := #[s, x], argTypes := #[31, 31] })
    (v : Value) (xs ys : List Int) (A : Option Addr) (c : Nat) (hs : a.eval s = v) (hx : a.eval x = .slice A ys.length c) (HO : OwnI W base v xs) (HC : Kd.C (Kd.int .i64) W A ys.length ys) (HB : Below base w0 W) (hbase : base ≤ W.heap.size) (hl : xs.length + ys.length ≤ 100000)
    (h : ∀ v1 w1, OwnI w1 base v1 (xs ++ ys) → Below base w0 w1 → W.grownBy w1 v.ownBlock → K (a.put o.dst v1) w1) :
    if Region.wanted o (yielded ops a.tmps) = true then Oper.wp Try.prog o a W K Q else K (a.put o.dst undef) W := by
  refine Kd.R_append_rows_step (Kd.int .i64) (Rr := fun y cs => cs = [.int .i64 y]) (w0 := w0) base (by simp [Region.wanted, hgd]) s x 31 3 (.int .i64 0) 8 ho Try.underlying31 infoI rfl (by decide) (by decide) v xs ys A ys.length c (fun _ => True) (fun _ => False) hs hx HO HC (fun _ _ h => h) (fun _ h => h.elim) (fun _ _ => trivial) HB hbase (by omega) ?_
  intro v1 w1 h1 h2 h3 _
  exact h v1 w1 h1 h2 h3
/-- append(v, l...) of ints, in a plain region. -/
theorem list_app (base : Nat) (hgd : o.guard = none) (s x : Operand) (ho : o.op = .call { callee := .builtin .append, args := #[s, x], argTypes := #[31, 31] })
    (v : Value) (xs ys : List Int) (A : Option Addr) (c : Nat) (hs : a.eval s = v) (hx : a.eval x = .slice A ys.length c) (HO : OwnI W base v xs) (HC : Kd.C (Kd.int .i64) W A ys.length ys) (HB : Below base w0 W) (hbase : base ≤ W.heap.size) (hl : xs.length + ys.length ≤ 1000000)
    (h : ∀ v1 w1, OwnI w1 base v1 (xs ++ ys) → Below base w0 w1 → W.grownBy w1 v.ownBlock → wpList Try.prog ops Q rest (a.put o.dst v1) w1) :
    wpList Try.prog ops Q (o :: rest) a W := by
  refine Kd.R_append_rows (Kd.int .i64) (Rr := fun y cs => cs = [.int .i64 y]) (w0 := w0) base hgd s x 31 3 (.int .i64 0) 8 ho Try.underlying31 infoI rfl (by decide) (by decide) v xs ys A ys.length c (fun _ => True) (fun _ => False) hs hx HO HC (fun _ _ h => h) (fun _ h => h.elim) (fun _ _ => trivial) HB hbase (by omega) ?_
  intro v1 w1 h1 h2 h3 _
  exact h v1 w1 h1 h2 h3
end
theorem readsL_le (x : Ir) (h : x.args.length ≤ 20) : (readsL x).length ≤ 20 := by
  unfold readsL
  split
  · simp
  split
  · simp
  split
  · simp
  split
  · exact h
  · simp
theorem usesL_le (x : Ir) (h : (readsL x).length ≤ 20) : (usesL x).length ≤ 21 := by
  unfold usesL
  rw [List.length_append]
  split <;> simp <;> omega
theorem C_one {w : World} {g : Nat} {d : Int} (hb : w.heap[g]? = some (.cells #[.int .i64 d] 3 (0, 0))) : Kd.C (Kd.int .i64) w (some ⟨g, 0, none⟩) [d].length [d] :=
  C_ints hb (fun j x hj => by cases j with | zero => simpa using hj | succ j => simp at hj) (by simp)

/-! ### two boxes of the call's own -/
section
variable {w wr w2 : World} {o1 o2 : Go.Obj} {cs1 cs2 : Array Value} {t1 t2 : TypeId}
theorem box2_of (h : Below ((w.alloc o1).alloc o2).heap.size ((w.alloc o1).alloc o2) wr) : Below (w.heap.size + 2) ((w.alloc o1).alloc o2) wr := by
  simpa using h
theorem box2_step (h : Below (w.heap.size + 2) ((w.alloc o1).alloc o2) wr) (h2 : Below wr.heap.size wr w2) : Below (w.heap.size + 2) ((w.alloc o1).alloc o2) w2 :=
  h.trans (h2.mono (by have := h.size; simp at this; omega))
theorem box2_fst (h : Below (w.heap.size + 2) ((w.alloc (.cells cs1 t1 (0, 0))).alloc o2) wr) (j : Nat) : wr.cell? ⟨w.heap.size, j, none⟩ = cs1[j]? := by
  rw [h.cell (p := ⟨w.heap.size, j, none⟩) (by show w.heap.size < w.heap.size + 2; omega)]
  exact (blk_cell (blk_alloc (blk_new w _) o2) j)
theorem box2_snd (h : Below (w.heap.size + 2) ((w.alloc o1).alloc (.cells cs2 t2 (0, 0))) wr) (j : Nat) : wr.cell? ⟨w.heap.size + 1, j, none⟩ = cs2[j]? := by
  rw [h.cell (p := ⟨w.heap.size + 1, j, none⟩) (by show w.heap.size + 1 < w.heap.size + 2; omega)]
  exact (blk_cell (blk_new1 w o1 _) j)
theorem box2_below (h : Below (w.heap.size + 2) ((w.alloc o1).alloc o2) wr) : Below w.heap.size w wr :=
  (below_alloc (below_alloc (Below.refl _ _) o1) o2).trans (h.mono (by omega))
theorem ir_box {x : Ir} {A : Option Addr} {cp : Nat} (h : Below (w.heap.size + 2) ((w.alloc o1).alloc (.cells #[.int .i64 x.kind, .int .i64 x.op, .int .i64 x.d, .int .i64 x.a, .int .i64 x.b, .int .i64 x.c, .int .u32 x.n, .string x.name, .slice A x.args.length cp] 33 (0, 0))) wr) :
    wr.cell? ⟨w.heap.size + 1, 0, none⟩ = some (.int .i64 x.kind) ∧ wr.cell? ⟨w.heap.size + 1, 1, none⟩ = some (.int .i64 x.op) ∧ wr.cell? ⟨w.heap.size + 1, 2, none⟩ = some (.int .i64 x.d) ∧ wr.cell? ⟨w.heap.size + 1, 3, none⟩ = some (.int .i64 x.a) ∧
    wr.cell? ⟨w.heap.size + 1, 4, none⟩ = some (.int .i64 x.b) ∧ wr.cell? ⟨w.heap.size + 1, 5, none⟩ = some (.int .i64 x.c) ∧ wr.cell? ⟨w.heap.size + 1, 6, none⟩ = some (.int .u32 x.n) ∧ wr.cell? ⟨w.heap.size + 1, 7, none⟩ = some (.string x.name) ∧ wr.cell? ⟨w.heap.size + 1, 8, none⟩ = some (.slice A x.args.length cp) :=
  ⟨box2_snd h 0, box2_snd h 1, box2_snd h 2, box2_snd h 3, box2_snd h 4, box2_snd h 5, box2_snd h 6, box2_snd h 7, box2_snd h 8⟩
theorem code_box {c : Code} {A1 A4 : Option Addr} {c1 c4 : Nat} (h : Below (w.heap.size + 2) ((w.alloc (.cells #[.string c.name, .slice A1 c.params.length c1, .int .i64 c.regs, .int .i64 c.cells, .slice A4 c.l.length c4] 25 (0, 0))).alloc o2) wr) :
    wr.cell? ⟨w.heap.size, 2, none⟩ = some (.int .i64 c.regs) ∧ wr.cell? ⟨w.heap.size, 3, none⟩ = some (.int .i64 c.cells) ∧ wr.cell? ⟨w.heap.size, 4, none⟩ = some (.slice A4 c.l.length c4) :=
  ⟨box2_fst h 2, box2_fst h 3, box2_fst h 4⟩
end

set_option maxHeartbeats 8000000 in
set_option maxRecDepth 100000 in
theorem wrong_on (c : Code) (A1 : Option Addr) (c1 : Nat) (A4 : Option Addr) (c4 : Nat) (i : Nat) (x : Ir) (w : World) (hx : c.l[i]? = some x) (h100 : x.name.size ≤ 100) (hl3 : c.l.length ≤ 3000) (ha20 : x.args.length ≤ 20) (hn : 0 ≤ x.n ∧ x.n < 4294967296)
    (hc0 : 0 ≤ c.cells) (hc1 : c.cells ≤ 20000) (hr : Kd.C kIr w A4 c.l.length c.l) (h14 : bad14 x = false) :
    Calls Try.prog 45 #[codeV c A1 c1 A4 c4, .int .i64 i] w fun e w' => e = .returned (.int .i64 (wrongE c i x)) ∧ Below w.heap.size w w' := by
  have hi := (List.getElem?_eq_some_iff.1 hx).1
  obtain ⟨y, ad, A8, c8, rfl, hy, h0, h1, h2, h3, h4, h5, h6, h7, h8, hc8, hC8⟩ := nt_Ir hr (below_alloc (Below.refl w.heap.size w) (.cells #[.string c.name, .slice A1 c.params.length c1, .int .i64 c.regs, .int .i64 c.cells, .slice A4 c.l.length c4] 25)) i hi
  obtain rfl : y = x := by rw [hx] at hy; exact (Option.some.inj hy).symm
  have HX := Aside0.mk hx
  have HW := Aside0.mk (show wrongE c i y = if bad15 c y = true then 15 else if bad16 c y = true then 16 else if bad17 c i y = true then 17 else if bad18 c i y = true then 18 else 0 by unfold wrongE; rw [if_neg (by rw [h14]; decide)])
  have HLn := Aside0.mk (readsL_le y ha20)
  clear hr hx hy
  obtain ⟨cname, params, regs, cells, l⟩ := c
  obtain ⟨kind, op, d, a, b, cc, n, name, args⟩ := y
  simp only [codeV] at *
  have HC8 := Aside0.mk hC8
  clear hC8
  have hs : name.size ≤ 140737488351232 := by omega
  have hu := Try.underlying33
  have hu2 := Try.underlying25
  have H14 := Aside0.mk h14
  clear h14
  go_enter Try.func45, Try.ntmps45
  go_upto_region 2 with (fail)
  go_cut [53] (fun v53 wc => v53 = .bool false ∧ Aside0 (Below (w.heap.size + 2) ((w.alloc (.cells #[.string cname, .slice A1 params.length c1, .int .i64 regs, .int .i64 cells, .slice (some ad) l.length c4] 25)).alloc (.cells #[.int .i64 kind, .int .i64 op, .int .i64 d, .int .i64 a, .int .i64 b, .int .i64 cc, .int .u32 n, .string name, .slice A8 args.length c8] 33)) wc))
  case first =>
    have h14 := H14.out
    simp only [bad14, decide_eq_false_iff_not] at h14
    have k1 : ¬ kind < 1 := fun h => h14 (.inl h)
    have k2 : ¬ 10 < kind := fun h => h14 (.inr (.inl h))
    by_cases h3 : kind = 3
    · have o1 : ¬ op < 1 := fun h => h14 (.inr (.inr (.inl ⟨h3, .inl h⟩)))
      have o2 : ¬ 10 < op := fun h => h14 (.inr (.inr (.inl ⟨h3, .inr h⟩)))
      clear h14 k1 k2
      subst h3
      go_wp2
      go_meet
      case rel => exact ⟨rfl, ⟨Below.refl _ _⟩⟩
    · by_cases h7 : kind = 7
      · have a6 : ¬ 6 < args.length := fun h => h14 (.inr (.inr (.inr ⟨h7, .inl h⟩)))
        have nm : namedB name = true := by
          cases hb : namedB name with
          | true => rfl
          | false => exact absurd (.inr (.inr (.inr ⟨h7, .inr hb⟩))) h14
        clear h14 k1 k2 h3
        subst h7
        go_wp2_with (go_at_call 68; (with_reducible refine (named_any name _ hs).mono ?_); rintro e w' ⟨rfl, n, rfl⟩)
        go_meet
        case rel => exact ⟨by first | rfl | exact congrArg Value.bool (decide_eq_false (by omega)), ⟨pw_below_drewN (Below.refl _ _) _⟩⟩
      · have e3 : (kind == 3) = false := beq_eq_false_iff_ne.2 h3
        have e7 : (kind == 7) = false := beq_eq_false_iff_ne.2 h7
        clear h14 h3 h7
        go_wp2
        go_meet
        case rel => exact ⟨rfl, ⟨Below.refl _ _⟩⟩
  case rest =>
    obtain ⟨rfl, HB0⟩ := hcut
    obtain ⟨e0, e1, e2, e3, e4, e5, e6, e7, e8⟩ := ir_box (x := ⟨kind, op, d, a, b, cc, n, name, args⟩) HB0.out
    simp only at e0 e1 e2 e3 e4 e5 e6 e7 e8
    clear h0 h1 h2 h3 h4 h5 h6 h7 h8
    go_upto_if 57 with (first
    | (go_at_call 70; (with_reducible refine (reads_any ⟨kind, op, d, a, b, cc, n, name, args⟩ A8 c8 _ (Kd.C_below (Kd.C_below HC8.out (below_alloc (Below.refl _ _) _)) (HB0.out.mono (by simp))) hc8).mono ?_); rintro e w1 ⟨A, cp, rfl, hcp, hCl, hB1⟩; have HB1 := Aside0.mk (box2_step HB0.out hB1); have HCl := Aside0.mk hCl; clear hB1 hCl; obtain ⟨g0, g1, g2, g3, g4, g5, g6, g7, g8⟩ := ir_box (x := ⟨kind, op, d, a, b, cc, n, name, args⟩) HB1.out; simp only at g0 g1 g2 g3 g4 g5 g6 g7 g8)
    | (go_at_call 71; (with_reducible refine (writes_any ⟨kind, op, d, a, b, cc, n, name, args⟩ A8 c8 args.length _).mono ?_); rintro e w2 ⟨rfl, hB2⟩; have HB2 := Aside0.mk (box2_step HB1.out hB2); have HC2 := Aside0.mk (Kd.C_below HCl.out hB2); clear hB2 g0 g1 g2 g3 g4 g5 g6 g7 g8; obtain ⟨g0, g1, g2, g3, g4, g5, g6, g7, g8⟩ := ir_box (x := ⟨kind, op, d, a, b, cc, n, name, args⟩) HB2.out; simp only at g0 g1 g2 g3 g4 g5 g6 g7 g8; obtain ⟨f2, f3, f4⟩ := code_box (c := ⟨cname, params, regs, cells, l⟩) HB2.out; simp only at f2 f3 f4))
    go_cut [6] (fun v6 wc => ∃ A' c', v6 = .slice A' (usesL ⟨kind, op, d, a, b, cc, n, name, args⟩).length c' ∧ Aside0 (Kd.C (Kd.int .i64) wc A' (usesL ⟨kind, op, d, a, b, cc, n, name, args⟩).length (usesL ⟨kind, op, d, a, b, cc, n, name, args⟩)) ∧ Aside0 (Below w2.heap.size w2 wc))
    case first =>
      have HU := Aside0.mk (show usesL ⟨kind, op, d, a, b, cc, n, name, args⟩ = readsL ⟨kind, op, d, a, b, cc, n, name, args⟩ ++ (if writesB ⟨kind, op, d, a, b, cc, n, name, args⟩ = true then [d] else []) from rfl)
      cases hwr : writesB ⟨kind, op, d, a, b, cc, n, name, args⟩
      · have HV := Aside0.mk (show usesL ⟨kind, op, d, a, b, cc, n, name, args⟩ = readsL ⟨kind, op, d, a, b, cc, n, name, args⟩ by rw [HU.out, hwr]; simp)
        go_wp2
        go_meet
        case rel => rw [HV.out]; exact ⟨A, cp, rfl, HC2, ⟨Below.refl _ _⟩⟩
      · have HV := Aside0.mk (show usesL ⟨kind, op, d, a, b, cc, n, name, args⟩ = readsL ⟨kind, op, d, a, b, cc, n, name, args⟩ ++ [d] by rw [HU.out, hwr]; simp)
        have L1 : ∀ o, ((w2.alloc o).cell? ⟨w.heap.size + 1, 2, none⟩) = some (.int .i64 d) := fun o => pw_cell_below (below_alloc (Below.refl _ _) o) g2
        go_wp2
        go_region_law (first
        | (refine step_app w2.heap.size rfl (.tmp 58) (.tmp 59) rfl (.slice (some ⟨w2.heap.size, 0, none⟩) 0 0) [] (readsL ⟨kind, op, d, a, b, cc, n, name, args⟩) A cp rfl rfl (by first | exact own_empty (blk_drew (blk_new w2 _)) (Nat.le_refl _) | exact own_empty (blk_drew (blk_alloc (blk_new w2 _) _)) (Nat.le_refl _)) (by first | exact Kd.C_below HC2.out (below_drew1 (below_alloc (Below.refl _ _) _)) | exact Kd.C_below HC2.out (below_drew1 (below_alloc (below_alloc (Below.refl _ _) _) _))) (w0 := w2) (by first | exact (below_drew1 (below_alloc (Below.refl _ _) _)) | exact (below_drew1 (below_alloc (below_alloc (Below.refl _ _) _) _))) (by simp <;> omega) (by simp only [List.length_nil]; have := HLn.out; omega) ?_; intro v3 w3 hR3 hb3 hg3; have HR3 := Aside0.mk hR3; have HB3 := Aside0.mk hb3; have HG3 := Aside0.mk hg3; have q3 : w3.cell? ⟨w.heap.size + 1, 2, none⟩ = some (.int .i64 d) := pw_cell_below hb3 g2; clear hR3 hb3 hg3; (try have q63 := Aside0.mk ((HG3.out.block (w2.heap.size + 1) (by simp) (by simp [Value.ownBlock])).trans (blk_drew (blk_new1 w2 _ (.cells #[.int .i64 d] 3))))))
        | (refine step_app w2.heap.size rfl (.tmp 58) (.tmp 59) rfl (.slice (some ⟨w2.heap.size + 1, 0, none⟩) 0 0) [] (readsL ⟨kind, op, d, a, b, cc, n, name, args⟩) A cp rfl rfl (by exact own_empty (blk_drew (blk_new1 w2 _ _)) (Nat.le_succ _)) (by first | exact Kd.C_below HC2.out (below_drew1 (below_alloc (Below.refl _ _) _)) | exact Kd.C_below HC2.out (below_drew1 (below_alloc (below_alloc (Below.refl _ _) _) _))) (w0 := w2) (by first | exact (below_drew1 (below_alloc (Below.refl _ _) _)) | exact (below_drew1 (below_alloc (below_alloc (Below.refl _ _) _) _))) (by simp <;> omega) (by simp only [List.length_nil]; have := HLn.out; omega) ?_; intro v3 w3 hR3 hb3 hg3; have HR3 := Aside0.mk hR3; have HB3 := Aside0.mk hb3; have HG3 := Aside0.mk hg3; have q3 : w3.cell? ⟨w.heap.size + 1, 2, none⟩ = some (.int .i64 d) := pw_cell_below hb3 g2; clear hR3 hb3 hg3; have q63 := Aside0.mk ((HG3.out.block w2.heap.size (by simp <;> omega) (by simp [Value.ownBlock])).trans (blk_drew (blk_alloc (blk_new w2 (.cells #[.int .i64 d] 3)) _))))
        | (refine step_app w2.heap.size rfl (.tmp 60) (.tmp 63) rfl _ _ [d] _ 1 rfl rfl (by first | exact HR3.out | exact Kd.R_alloc HR3.out _) (by first | exact C_one (blk_new _ _) | exact C_one q63.out) (w0 := w2) (by first | exact HB3.out | exact below_alloc HB3.out _) (by have := HB3.out.size; simp <;> omega) (by have := HLn.out; simp; omega) ?_; intro v4 w4 hR4 hb4 hg4; have HR4 := Aside0.mk hR4; have HB4 := Aside0.mk hb4; clear hR4 hb4 hg4))
        all_goals
          go_wp2
          go_meet
          case rel =>
            obtain ⟨A', c', he, _, hC⟩ := Kd.R_reads HR4.out
            rw [HV.out]
            exact ⟨A', c', he, ⟨hC⟩, HB4⟩
    case rest =>
      obtain ⟨A', c', rfl, HCu, HBu⟩ := hcut
      have HB3 := Aside0.mk (box2_step HB2.out HBu.out)
      clear g0 g1 g2 g3 g4 g5 g6 g7 g8 f2 f3 f4 HBu HB2 HC2 HCl HB1
      have HUl := Aside0.mk (usesL_le ⟨kind, op, d, a, b, cc, n, name, args⟩ HLn.out)
      generalize hU : usesL ⟨kind, op, d, a, b, cc, n, name, args⟩ = U at *
      have HUe := Aside0.mk hU
      clear hU
      have hul := HUl.out
      obtain ⟨g0, g1, g2, g3, g4, g5, g6, g7, g8⟩ := ir_box (x := ⟨kind, op, d, a, b, cc, n, name, args⟩) HB3.out
      obtain ⟨f2, f3, f4⟩ := code_box (c := ⟨cname, params, regs, cells, l⟩) HB3.out
      simp only at g0 g1 g2 g3 g4 g5 g6 g7 g8 f2 f3 f4
      go_wp2
      go_loop [67] (fun v67 => ∃ k : Nat, k ≤ U.length ∧ v67 = .int .i64 k ∧ Aside0 ((U.take k).any (outReg ⟨cname, params, regs, cells, l⟩) = false)) (fun v67 => U.length - (intOf v67).toNat)
      case atStart => exact ⟨0, Nat.zero_le _, rfl, ⟨rfl⟩⟩
      case round =>
        obtain ⟨k, hk, rfl, HA⟩ := hrel
        by_cases hlt : k < U.length
        · obtain ⟨adu, r, rfl, hr, hcell⟩ := nt_scalar HCu.out (Below.refl _ _) k hlt
          have HT := Aside0.mk hr
          clear hr
          by_cases hbad : r < 0 ∨ regs ≤ r
          · have HX5 := Aside0.mk (any_true (f := outReg ⟨cname, params, regs, cells, l⟩) HT.out (by simp [outReg, hbad]))
            have HE := Aside0.mk (show bad15 ⟨cname, params, regs, cells, l⟩ ⟨kind, op, d, a, b, cc, n, name, args⟩ = true by rw [bad15_uses, HUe.out]; exact HX5.out)
            have HF := Aside0.mk (show wrongE ⟨cname, params, regs, cells, l⟩ i ⟨kind, op, d, a, b, cc, n, name, args⟩ = 15 by rw [HW.out, if_pos HE.out])
            rcases hbad with hbad | hbad
            · go_wp2
              go_ret
              exact ⟨ret_i64 HF.out.symm, box2_below HB3.out⟩
            · by_cases hr0 : r < 0
              · go_wp2
                go_ret
                exact ⟨ret_i64 HF.out.symm, box2_below HB3.out⟩
              · go_wp2
                go_ret
                exact ⟨ret_i64 HF.out.symm, box2_below HB3.out⟩
          · have HN := Aside0.mk (any_snoc (f := outReg ⟨cname, params, regs, cells, l⟩) HT.out HA.out (by simp [outReg]; omega))
            have b1 : ¬ r < 0 := fun h => hbad (.inl h)
            have b2 : ¬ regs ≤ r := fun h => hbad (.inr h)
            clear hbad
            go_wp2
            go_round
            case rel => exact ⟨k + 1, by omega, by go_num, HN⟩
            case measure => simp [intOf]; omega
        · obtain rfl : k = U.length := by omega
          have H15 := Aside0.mk (show bad15 ⟨cname, params, regs, cells, l⟩ ⟨kind, op, d, a, b, cc, n, name, args⟩ = false by rw [bad15_uses, HUe.out]; have := HA.out; rwa [List.take_length] at this)
          have HW2 := Aside0.mk (HW.out.trans (if_neg (by rw [H15.out]; decide)))
          clear HA HW
          by_cases k5 : kind = 5 ∨ kind = 6
          · by_cases hcn : cells ≤ n
            · rcases k5 with rfl | rfl
              · skip
                have HF := Aside0.mk (show wrongE ⟨cname, params, regs, cells, l⟩ i ⟨5, op, d, a, b, cc, n, name, args⟩ = 16 by rw [HW2.out]; simp only [bad16, bad17, bad18, decide_eq_true_eq]; rw [if_pos (by first | omega | (refine ⟨by simp, ?_⟩; omega))])
                go_wp2
                all_goals (go_ret; exact ⟨ret_i64 HF.out.symm, box2_below HB3.out⟩)
              · skip
                have HF := Aside0.mk (show wrongE ⟨cname, params, regs, cells, l⟩ i ⟨6, op, d, a, b, cc, n, name, args⟩ = 16 by rw [HW2.out]; simp only [bad16, bad17, bad18, decide_eq_true_eq]; rw [if_pos (by first | omega | (refine ⟨by simp, ?_⟩; omega))])
                go_wp2
                all_goals (go_ret; exact ⟨ret_i64 HF.out.symm, box2_below HB3.out⟩)
            · rcases k5 with rfl | rfl
              · skip
                by_cases hil : (i : Int) = (l.length : Int) - 1
                · have hib : ((i : Int) == (l.length : Int) - 1) = true := beq_iff_eq.2 hil
                  have HF := Aside0.mk (show wrongE ⟨cname, params, regs, cells, l⟩ i ⟨5, op, d, a, b, cc, n, name, args⟩ = 18 by rw [HW2.out]; simp only [bad16, bad17, bad18, decide_eq_true_eq]; rw [if_neg (by omega), if_neg (by omega), if_pos (by first | omega | (refine ⟨by simp, ?_⟩; omega))])
                  go_wp2
                  all_goals (go_ret; exact ⟨ret_i64 HF.out.symm, box2_below HB3.out⟩)
                · have hib : ((i : Int) == (l.length : Int) - 1) = false := beq_eq_false_iff_ne.2 hil
                  have HF := Aside0.mk (show wrongE ⟨cname, params, regs, cells, l⟩ i ⟨5, op, d, a, b, cc, n, name, args⟩ = 0 by rw [HW2.out]; simp only [bad16, bad17, bad18, decide_eq_true_eq]; rw [if_neg (by omega), if_neg (by omega), if_neg (by omega)])
                  go_wp2
                  all_goals (go_ret; exact ⟨ret_i64 HF.out.symm, box2_below HB3.out⟩)
              · skip
                by_cases hil : (i : Int) = (l.length : Int) - 1
                · have hib : ((i : Int) == (l.length : Int) - 1) = true := beq_iff_eq.2 hil
                  have HF := Aside0.mk (show wrongE ⟨cname, params, regs, cells, l⟩ i ⟨6, op, d, a, b, cc, n, name, args⟩ = 18 by rw [HW2.out]; simp only [bad16, bad17, bad18, decide_eq_true_eq]; rw [if_neg (by omega), if_neg (by omega), if_pos (by first | omega | (refine ⟨by simp, ?_⟩; omega))])
                  go_wp2
                  all_goals (go_ret; exact ⟨ret_i64 HF.out.symm, box2_below HB3.out⟩)
                · have hib : ((i : Int) == (l.length : Int) - 1) = false := beq_eq_false_iff_ne.2 hil
                  have HF := Aside0.mk (show wrongE ⟨cname, params, regs, cells, l⟩ i ⟨6, op, d, a, b, cc, n, name, args⟩ = 0 by rw [HW2.out]; simp only [bad16, bad17, bad18, decide_eq_true_eq]; rw [if_neg (by omega), if_neg (by omega), if_neg (by omega)])
                  go_wp2
                  all_goals (go_ret; exact ⟨ret_i64 HF.out.symm, box2_below HB3.out⟩)
          have e5 : (kind == 5) = false := beq_eq_false_iff_ne.2 (by omega)
          have e6 : (kind == 6) = false := beq_eq_false_iff_ne.2 (by omega)
          by_cases k8 : kind = 8 ∨ kind = 9
          · clear e5 e6 k5
            by_cases hci : cc ≤ i
            · rcases k8 with rfl | rfl
              · skip
                have HF := Aside0.mk (show wrongE ⟨cname, params, regs, cells, l⟩ i ⟨8, op, d, a, b, cc, n, name, args⟩ = 17 by rw [HW2.out]; simp only [bad16, bad17, bad18, decide_eq_true_eq]; rw [if_neg (by omega), if_pos (by first | omega | (refine ⟨by simp, ?_⟩; omega))])
                go_wp2
                all_goals (go_ret; exact ⟨ret_i64 HF.out.symm, box2_below HB3.out⟩)
              · skip
                have HF := Aside0.mk (show wrongE ⟨cname, params, regs, cells, l⟩ i ⟨9, op, d, a, b, cc, n, name, args⟩ = 17 by rw [HW2.out]; simp only [bad16, bad17, bad18, decide_eq_true_eq]; rw [if_neg (by omega), if_pos (by first | omega | (refine ⟨by simp, ?_⟩; omega))])
                go_wp2
                all_goals (go_ret; exact ⟨ret_i64 HF.out.symm, box2_below HB3.out⟩)
            · by_cases hcl : (l.length : Int) ≤ cc
              · rcases k8 with rfl | rfl
                · skip
                  have HF := Aside0.mk (show wrongE ⟨cname, params, regs, cells, l⟩ i ⟨8, op, d, a, b, cc, n, name, args⟩ = 17 by rw [HW2.out]; simp only [bad16, bad17, bad18, decide_eq_true_eq]; rw [if_neg (by omega), if_pos (by first | omega | (refine ⟨by simp, ?_⟩; omega))])
                  go_wp2
                  all_goals (go_ret; exact ⟨ret_i64 HF.out.symm, box2_below HB3.out⟩)
                · skip
                  have HF := Aside0.mk (show wrongE ⟨cname, params, regs, cells, l⟩ i ⟨9, op, d, a, b, cc, n, name, args⟩ = 17 by rw [HW2.out]; simp only [bad16, bad17, bad18, decide_eq_true_eq]; rw [if_neg (by omega), if_pos (by first | omega | (refine ⟨by simp, ?_⟩; omega))])
                  go_wp2
                  all_goals (go_ret; exact ⟨ret_i64 HF.out.symm, box2_below HB3.out⟩)
              · rcases k8 with rfl | rfl
                · skip
                  by_cases hil : (i : Int) = (l.length : Int) - 1
                  · exfalso; omega
                  · have hib : ((i : Int) == (l.length : Int) - 1) = false := beq_eq_false_iff_ne.2 hil
                    have HF := Aside0.mk (show wrongE ⟨cname, params, regs, cells, l⟩ i ⟨8, op, d, a, b, cc, n, name, args⟩ = 0 by rw [HW2.out]; simp only [bad16, bad17, bad18, decide_eq_true_eq]; rw [if_neg (by omega), if_neg (by omega), if_neg (by omega)])
                    go_wp2
                    all_goals (go_ret; exact ⟨ret_i64 HF.out.symm, box2_below HB3.out⟩)
                · skip
                  by_cases hil : (i : Int) = (l.length : Int) - 1
                  · exfalso; omega
                  · have hib : ((i : Int) == (l.length : Int) - 1) = false := beq_eq_false_iff_ne.2 hil
                    have HF := Aside0.mk (show wrongE ⟨cname, params, regs, cells, l⟩ i ⟨9, op, d, a, b, cc, n, name, args⟩ = 0 by rw [HW2.out]; simp only [bad16, bad17, bad18, decide_eq_true_eq]; rw [if_neg (by omega), if_neg (by omega), if_neg (by omega)])
                    go_wp2
                    all_goals (go_ret; exact ⟨ret_i64 HF.out.symm, box2_below HB3.out⟩)
          have e8 : (kind == 8) = false := beq_eq_false_iff_ne.2 (by omega)
          have e9 : (kind == 9) = false := beq_eq_false_iff_ne.2 (by omega)
          by_cases k10 : kind = 10
          · clear e5 e6 e8 e9 k5 k8
            subst k10
            by_cases hil : (i : Int) = (l.length : Int) - 1
            · have hib : ((i : Int) == (l.length : Int) - 1) = true := beq_iff_eq.2 hil
              have HF := Aside0.mk (show wrongE ⟨cname, params, regs, cells, l⟩ i ⟨10, op, d, a, b, cc, n, name, args⟩ = 0 by rw [HW2.out]; simp only [bad16, bad17, bad18, decide_eq_true_eq]; rw [if_neg (by omega), if_neg (by omega), if_neg (by omega)])
              go_wp2
              all_goals (go_ret; exact ⟨ret_i64 HF.out.symm, box2_below HB3.out⟩)
            · have hib : ((i : Int) == (l.length : Int) - 1) = false := beq_eq_false_iff_ne.2 hil
              have HF := Aside0.mk (show wrongE ⟨cname, params, regs, cells, l⟩ i ⟨10, op, d, a, b, cc, n, name, args⟩ = 0 by rw [HW2.out]; simp only [bad16, bad17, bad18, decide_eq_true_eq]; rw [if_neg (by omega), if_neg (by omega), if_neg (by omega)])
              go_wp2
              all_goals (go_ret; exact ⟨ret_i64 HF.out.symm, box2_below HB3.out⟩)
          have e10 : (kind == 10) = false := beq_eq_false_iff_ne.2 k10
          have e10b : (kind != 10) = true := bne_iff_ne.2 k10
          by_cases hil : (i : Int) = (l.length : Int) - 1
          · have hib : ((i : Int) == (l.length : Int) - 1) = true := beq_iff_eq.2 hil
            have HF := Aside0.mk (show wrongE ⟨cname, params, regs, cells, l⟩ i ⟨kind, op, d, a, b, cc, n, name, args⟩ = 18 by rw [HW2.out]; simp only [bad16, bad17, bad18, decide_eq_true_eq]; rw [if_neg (by omega), if_neg (by omega), if_pos (by first | omega | (refine ⟨by simp, ?_⟩; omega))])
            go_wp2
            all_goals (go_ret; exact ⟨ret_i64 HF.out.symm, box2_below HB3.out⟩)
          · have hib : ((i : Int) == (l.length : Int) - 1) = false := beq_eq_false_iff_ne.2 hil
            have HF := Aside0.mk (show wrongE ⟨cname, params, regs, cells, l⟩ i ⟨kind, op, d, a, b, cc, n, name, args⟩ = 0 by rw [HW2.out]; simp only [bad16, bad17, bad18, decide_eq_true_eq]; rw [if_neg (by omega), if_neg (by omega), if_neg (by omega)])
            go_wp2
            all_goals (go_ret; exact ⟨ret_i64 HF.out.symm, box2_below HB3.out⟩)
end Go.Proofs.Ytlkkdpmloeipjaa
