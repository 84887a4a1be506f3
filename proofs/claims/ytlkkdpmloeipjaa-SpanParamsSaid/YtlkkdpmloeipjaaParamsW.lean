/- carlinglaw11.SpanParams: the walk. -/
import Derived.Test.YtlkkdpmloeipjaaS2
import Derived.Test.YtlkkdpmloeipjaaP2
import Derived.OwnWalk
namespace Go.Proofs.Ytlkkdpmloeipjaa
open Go.RowKit Go.Proofs.YtlkkdpmloeipjaaW.PrintWords
set_option linter.unusedVariables false

/-- A slice of instructions that the call itself has made. -/
abbrev OwnIr (W : World) (base : Nat) (v : Value) (xs : List Ir) : Prop := kIr.R 33 W base (fun _ => True) v xs
theorem info_ir : (Try.prog.info? 33).map (fun i => (i.zero, i.size, i.bytes)) = some (some (.agg #[.int .i64 0, .int .i64 0, .int .i64 0, .int .i64 0, .int .i64 0, .int .i64 0, .int .u32 0, .string ByteArray.empty, .slice none 0 0]), 9, 96) := by kernel_rfl
theorem info_ty : (Try.prog.info? 78).map (fun i => (i.zero, i.size, i.bytes)) = some (some (.agg #[.bool false, .int .i64 0]), 2, 16) := by kernel_rfl
/-- An instruction without arguments, as it lies in a new block. -/
def bareIr (x : Ir) (cs : List Value) : Prop := x.args = [] ∧ cs = [.int .i64 x.kind, .int .i64 x.op, .int .i64 x.d, .int .i64 x.a, .int .i64 x.b, .int .i64 x.c, .int .u32 x.n, .string x.name, .slice none 0 0]
theorem bare_row {w : World} {g : Nat} {x : Ir} (hx : x.args = []) (hb : w.heap[g]? = some (.cells #[.int .i64 x.kind, .int .i64 x.op, .int .i64 x.d, .int .i64 x.a, .int .i64 x.b, .int .i64 x.c, .int .u32 x.n, .string x.name, .slice none 0 0] 33 (0, 0))) :
    ReadsRow bareIr 9 w (some ⟨g, 0, none⟩) 1 [x] := by
  refine ⟨rfl, by decide, fun _ => ⟨_, rfl, fun j p hj => ?_⟩⟩
  match j, hj with
  | 0, hj =>
    obtain rfl : x = p := Option.some.inj hj
    refine ⟨_, rfl, ⟨hx, rfl⟩, fun i u hi => ?_⟩
    rw [add_plain, blk_cell hb]
    rw [Nat.zero_mul, Nat.zero_add, ← Array.getElem?_toList]
    exact hi
  | j + 1, hj => simp at hj
section
variable {ops : Array Oper} {o : Oper} {a : Act} {Q : Exit → Act → World → Prop} {K : Act → World → Prop} {W w0 : World} {rest : List Oper}
/-- append(v, x) of an instruction without arguments, in a plain region. -/
theorem ir_app (base : Nat) (hgd : o.guard = none) (s y : Operand) (ho : o.op = .call { callee := .builtin .append, args := #[s, y], argTypes := #[23, 23] })
    (v : Value) (xs : List Ir) (x : Ir) (g c : Nat) (hs : a.eval s = v) (hy : a.eval y = .slice (some ⟨g, 0, none⟩) 1 c) (HO : OwnIr W base v xs) (hx : x.args = []) (hb : W.heap[g]? = some (.cells #[.int .i64 x.kind, .int .i64 x.op, .int .i64 x.d, .int .i64 x.a, .int .i64 x.b, .int .i64 x.c, .int .u32 x.n, .string x.name, .slice none 0 0] 33 (0, 0)))
    (HB : Below base w0 W) (hbase : base ≤ W.heap.size) (hl : xs.length ≤ 1000000)
    (h : ∀ v1 w1, OwnIr w1 base v1 (xs ++ [x]) → Below base w0 w1 → W.grownBy w1 v.ownBlock → wpList Try.prog ops Q rest (a.put o.dst v1) w1) :
    wpList Try.prog ops Q (o :: rest) a W := by
  refine Kd.R_append_rows kIr (Rr := bareIr) (w0 := w0) base hgd s y 23 33 _ 96 ho Try.underlying23 info_ir rfl (by decide) (by decide) v xs [x] (some ⟨g, 0, none⟩) 1 c (fun _ => True) (fun _ => False) hs hy HO (bare_row hx hb) (fun x cs h => by rw [h.2]; exact kIr_mkM _ _ _ x (by rw [h.1]; exact Kd.R_nil _ _ _ _ _)) (fun _ h => h.elim) (fun _ _ => trivial) HB hbase (by omega) ?_
  intro v1 w1 h1 h2 h3 _
  exact h v1 w1 h1 h2 h3
end
/-- What the walk keeps: the function's box b, its parameters below it, its instructions of its own. -/
structure PaW (w wp wr : World) (b : Nat) (AP : Option Addr) (cP n : Nat) (v : Value) (xs : List Ir) : Prop where
  base : wp.heap.size = b
  pre : Below w.heap.size w wp
  below : Below b wp wr
  box : wr.heap[b]? = some (.cells #[.string ⟨#[97, 46, 102]⟩, .slice AP n cP, .int .i64 ((n : Int) + 1), .int .i64 0, v] 25 (0, 0))
  own : OwnIr wr b v xs
section
variable {w wp wr w1 : World} {b : Nat} {AP : Option Addr} {cP n : Nat} {v v1 : Value} {xs ys : List Ir}
theorem PaW.alloc (h : PaW w wp wr b AP cP n v xs) (o : Go.Obj) : PaW w wp (wr.alloc o) b AP cP n v xs := by
  have e := h.base
  subst e
  exact ⟨rfl, h.pre, below_alloc h.below o, blk_alloc h.box o, Kd.R_alloc h.own o⟩
theorem PaW.step (h : PaW w wp wr b AP cP n v xs) (hR : OwnIr w1 b v1 ys) (hB : Below b wp w1) (hg : wr.grownBy w1 v.ownBlock) : PaW w wp (w1.setCell ⟨b, 4, none⟩ v1) b AP cP n v1 ys := by
  have e := h.base
  subst e
  have hb1 := (hg.block wp.heap.size (blk_lt h.box) (Kd.R_ne h.own h.box (by decide))).trans h.box
  exact ⟨rfl, h.pre, below_set hB (Nat.le_refl _), blk_put hb1 4 v1 rfl, Kd.R_set hR hb1 (by decide) 4 v1⟩
theorem PaW.boxed (h : PaW w wp wr b AP cP n v xs) (hB : Below b wp w1) (hg : wr.grownBy w1 v.ownBlock) : w1.heap[b]? = some (.cells #[.string ⟨#[97, 46, 102]⟩, .slice AP n cP, .int .i64 ((n : Int) + 1), .int .i64 0, v] 25 (0, 0)) :=
  (hg.block b (blk_lt h.box) (Kd.R_ne h.own h.box (by decide))).trans h.box
theorem PaW.all (h : PaW w wp wr b AP cP n v xs) : Below w.heap.size w wr := h.pre.trans (h.below.mono (by have := h.pre.size; have := h.base; omega))
end
theorem ok_par {n m k : Nat} (h6 : n ≤ 6) (h50 : m ≤ 50) : CodeOk (cPar n m k) := by
  have hm : ∀ x ∈ (cPar n m k).l, x = irC n ∨ x = irR k := fun x hx => by
    rcases List.mem_append.1 hx with h | h
    · exact .inl (List.eq_of_mem_replicate h)
    · exact .inr (List.mem_singleton.1 h)
  refine ⟨by show (⟨#[97, 46, 102]⟩ : ByteArray).size ≤ 100; decide, ?_, ?_, ?_, by show (0 : Int) ≤ 20000; decide, fun x hx => ?_, fun x hx => ?_, fun x hx => ?_⟩
  · show (List.replicate n zTy).length ≤ 20
    rw [List.length_replicate]; omega
  · rw [cPar_len]; omega
  · show (n : Int) + 1 ≤ 20000
    omega
  · rcases hm x hx with rfl | rfl <;> exact Nat.zero_le _
  · rcases hm x hx with rfl | rfl <;> exact Nat.zero_le _
  · rcases hm x hx with rfl | rfl <;> exact ⟨Int.le_refl _, by show (0 : Int) < 4294967296; decide⟩
theorem spans_par_any {n m k : Nat} (h6 : n ≤ 6) (h50 : m ≤ 50) (W : World) (A1 : Option Addr) (c1 : Nat) (A4 : Option Addr) (c4 : Nat) (hat : CodeAt W (cPar n m k) A1 c1 A4 c4) :
    Calls Try.prog 23 #[.agg #[.string ⟨#[97, 46, 102]⟩, .slice A1 n c1, .int .i64 ((n : Int) + 1), .int .i64 0, .slice A4 (m + 1) c4]] W (RetSp W (spansE (cPar n m k))) := by
  have h := spans_any (cPar n m k) A1 c1 A4 c4 W (ok_par h6 h50) hat
  have e1 : (cPar n m k).params.length = n := List.length_replicate ..
  simp only [codeV] at h
  rw [e1, cPar_len] at h
  exact h
theorem c_set4 {w : World} {b : Nat} {x0 x1 x2 x3 x4 : Value} (h : w.heap[b]? = some (.cells #[x0, x1, x2, x3, x4] 25 (0, 0))) (v : Value) :
    (w.setCell ⟨b, 4, none⟩ v).cell? ⟨b, 0, none⟩ = some x0 ∧ (w.setCell ⟨b, 4, none⟩ v).cell? ⟨b, 1, none⟩ = some x1 ∧ (w.setCell ⟨b, 4, none⟩ v).cell? ⟨b, 2, none⟩ = some x2 ∧ (w.setCell ⟨b, 4, none⟩ v).cell? ⟨b, 3, none⟩ = some x3 ∧ (w.setCell ⟨b, 4, none⟩ v).cell? ⟨b, 4, none⟩ = some v := by
  have h2 : (w.setCell ⟨b, 4, none⟩ v).heap[b]? = some (.cells #[x0, x1, x2, x3, v] 25 (0, 0)) := blk_put h 4 v rfl
  exact ⟨blk_cell h2 0, blk_cell h2 1, blk_cell h2 2, blk_cell h2 3, blk_cell h2 4⟩
theorem rem_nat (r n : Nat) : Int.tmod (r : Int) (n : Int) = ((r % n : Nat) : Int) := by
  rw [Int.tmod_eq_emod_of_nonneg (by omega)]; rfl

set_option maxHeartbeats 8000000 in
set_option maxRecDepth 100000 in
theorem params_bad (a b r : Int) (w : World) (hbad : a < 1 ∨ 6 < a ∨ b < 0 ∨ 50 < b ∨ r < 0) :
    Calls Try.prog 6 #[.int .i64 a, .int .i64 b, .int .i64 r] w fun e w' => e = .returned (.bool true) ∧ Below w.heap.size w w' := by
  by_cases h1 : a < 1
  · go_enter Try.func6, Try.ntmps6
    go_wp2_with (go_at_call 17; (with_reducible refine (awake_any _).mono ?_); rintro e w1 ⟨rfl, hB1⟩; have HB1 := Aside0.mk hB1; clear hB1)
    go_ret
    exact ⟨rfl, HB1.out⟩
  by_cases h2 : 6 < a
  · go_enter Try.func6, Try.ntmps6
    go_wp2_with (go_at_call 17; (with_reducible refine (awake_any _).mono ?_); rintro e w1 ⟨rfl, hB1⟩; have HB1 := Aside0.mk hB1; clear hB1)
    go_ret
    exact ⟨rfl, HB1.out⟩
  by_cases h3 : b < 0
  · go_enter Try.func6, Try.ntmps6
    go_wp2_with (go_at_call 17; (with_reducible refine (awake_any _).mono ?_); rintro e w1 ⟨rfl, hB1⟩; have HB1 := Aside0.mk hB1; clear hB1)
    go_ret
    exact ⟨rfl, HB1.out⟩
  by_cases h4 : 50 < b
  · go_enter Try.func6, Try.ntmps6
    go_wp2_with (go_at_call 17; (with_reducible refine (awake_any _).mono ?_); rintro e w1 ⟨rfl, hB1⟩; have HB1 := Aside0.mk hB1; clear hB1)
    go_ret
    exact ⟨rfl, HB1.out⟩
  · have h5 : r < 0 := by omega
    go_enter Try.func6, Try.ntmps6
    go_wp2_with (go_at_call 17; (with_reducible refine (awake_any _).mono ?_); rintro e w1 ⟨rfl, hB1⟩; have HB1 := Aside0.mk hB1; clear hB1)
    go_ret
    exact ⟨rfl, HB1.out⟩

set_option maxHeartbeats 16000000 in
set_option maxRecDepth 100000 in
theorem params_ok (n m r : Nat) (w : World) (h1 : 1 ≤ n) (h6 : n ≤ 6) (h50 : m ≤ 50) (hr : (Lit.int .i64 (r : Int)).wf = true) :
    Calls Try.prog 6 #[.int .i64 n, .int .i64 m, .int .i64 r] w fun e w' => e = .returned (.bool true) ∧ Below w.heap.size w w' := by
  have hk0 : r % n < n := Nat.mod_lt _ (by omega)
  have HK := Aside0.mk (rem_nat r n)
  have hkk := rem_nat r n
  have HF := Aside0.mk (spans_par_facts h6 h50 hk0)
  have HSp := Aside0.mk (fun W A1 c1 A4 c4 (hat : CodeAt W (cPar n m (r % n)) A1 c1 A4 c4) => spans_par_any h6 h50 W A1 c1 A4 c4 hat)
  have hlP : (List.replicate n zTy).length = n := List.length_replicate ..
  clear hr
  generalize r % n = k at *
  have hu2 := Try.underlying25
  have hu3 := Try.underlying33
  have hu4 := Try.underlying26
  go_enter Try.func6, Try.ntmps6
  go_upto_region 6 with (first
    | (go_at_call 17; (with_reducible refine (awake_any _).mono ?_); rintro e w1 ⟨rfl, hB1⟩; have HB1 := Aside0.mk hB1; clear hB1)
    | (at_make; refine Kd.R_make kTy (w0 := w1) w1.heap.size 78 rfl rfl 22 (.tmp 37) (.tmp 37) rfl (n : Int) rfl rfl Try.underlying22 (.agg #[.bool false, .int .i64 0]) 16 info_ty rfl (by decide) (by decide) zTy (ok := fun _ => True) (okp := fun _ => False) (kTy_mkM _ _ _ zTy) (fun _ h => h.elim) trivial (by omega) (by simp; omega) (Below.refl _ _) (Nat.le_refl _) ?_; intro v1 w3 hR hb3 hg3 hv3; obtain ⟨AP, cP, rfl, hcP, hCP⟩ := Kd.R_reads hR; have HCP := Aside0.mk hCP; have HB3 := Aside0.mk hb3; clear hR hb3 hg3 hv3 hCP))
  have HCP2 := Aside0.mk (show kTy.C w3 AP n (List.replicate n zTy) from by have := HCP.out; simpa using this)
  have hcP2 : n ≤ cP := by simpa using hcP
  have HW0 := Aside0.mk (show PaW w w3 (w3.alloc (.cells #[.string ⟨#[97, 46, 102]⟩, .slice AP n cP, .int .i64 ((n : Int) + 1), .int .i64 0, .slice none 0 0] 25)) w3.heap.size AP cP n (.slice none 0 0) (List.replicate 0 (irC n)) from
    ⟨rfl, below_step HB1.out HB3.out, below_alloc (Below.refl _ _) _, blk_new _ _, Kd.R_nil _ _ _ _ _⟩)
  clear HCP hcP
  go_wp2
  go_loopw [10] (fun v10 wr => ∃ j : Nat, j ≤ m ∧ v10 = .int .i64 j ∧ ∃ v, Aside0 (PaW w w3 wr w3.heap.size AP cP n v (List.replicate j (irC n))) ∧ Aside0 True) (fun v10 _ => m - (intOf v10).toNat)
  case atStart => exact ⟨0, Nat.zero_le _, rfl, _, HW0, ⟨trivial⟩⟩
  case round =>
    obtain ⟨j, hj, rfl, v, HW, _⟩ := hrel
    have q4 : wr.cell? ⟨w3.heap.size, 4, none⟩ = some v := blk_cell HW.out.box 4
    have HZ := Aside0.mk (show w3.heap.size ≤ wr.heap.size from HW.out.below.size)
    by_cases hlt : j < m
    · go_wp2_with (at_builtin; refine ir_app w3.heap.size rfl (.tmp 48) (.tmp 51) rfl v (List.replicate j (irC n)) (irC n) wr.heap.size 1 rfl rfl (Kd.R_alloc HW.out.own _) rfl (blk_new wr _) (w0 := w3) (HW.out.alloc _).below (by have := HZ.out; simp; omega) (by simp; omega) ?_; intro v5 w5 hR5 hb5 hg5; obtain ⟨A4, c4, e5, hc4, _⟩ := Kd.R_reads hR5; rw [show (List.replicate j (irC n) ++ [irC n]).length = j + 1 by simp] at e5; subst e5; have f5 := blk_frozen ((HW.out.alloc _).boxed hb5 hg5) 4; have q5 : w5.cell? ⟨w3.heap.size, 4, none⟩ = some v := blk_cell ((HW.out.alloc _).boxed hb5 hg5) 4; have HW5 := Aside0.mk ((HW.out.alloc _).step hR5 hb5 hg5); clear hR5 hb5 hg5 q4)
      go_roundw
      case rel => exact ⟨j + 1, by omega, by go_num, _, ⟨by rw [List.replicate_succ']; exact HW5.out⟩, ⟨trivial⟩⟩
      case measure => simp [intOf]; omega
    · obtain rfl : j = m := by omega
      generalize wr = wa at *
      go_wp2_with (first
        | (at_builtin; refine ir_app w3.heap.size rfl (.tmp 55) (.tmp 58) rfl v (List.replicate j (irC n)) (irR k) wa.heap.size 1 rfl rfl (Kd.R_alloc HW.out.own _) rfl (blk_new wa _) (w0 := w3) (HW.out.alloc _).below (by have := HZ.out; simp; omega) (by simp; omega) ?_; intro v5 w5 hR5 hb5 hg5; obtain ⟨A4, c4, e5, hc4, _⟩ := Kd.R_reads hR5; rw [show (List.replicate j (irC n) ++ [irR k]).length = j + 1 by simp] at e5 hc4; subst e5; have f5 := blk_frozen ((HW.out.alloc _).boxed hb5 hg5) 4; have q5 : w5.cell? ⟨w3.heap.size, 4, none⟩ = some v := blk_cell ((HW.out.alloc _).boxed hb5 hg5) 4; obtain ⟨k0, k1, k2, k3, k4⟩ := c_set4 ((HW.out.alloc _).boxed hb5 hg5) (.slice A4 (j + 1) c4); have HW5 := Aside0.mk ((HW.out.alloc _).step hR5 hb5 hg5); clear hR5 hb5 hg5 q4)
        | (go_at_call 23; (with_reducible refine (HSp.out _ AP cP A4 c4 ?_).mono ?_); (exact ⟨by have := Kd.C_below HCP2.out HW5.out.below; simpa [cPar] using this, by simpa [cPar] using hcP2, by have := (Kd.R_reads' HW5.out.own).2.2; exact this, by rw [cPar_len]; exact hc4⟩); rintro e w7 ⟨AS, cS, he, hcS, hCS, hB7⟩; rw [HF.out.1] at he; subst he; have HCS := Aside0.mk hCS; have HB7 := Aside0.mk (below_step HW5.out.all hB7); clear hB7 hCS k0 k1 k2 k3 k4 f5 q5))
      obtain ⟨hSl, hSn, hSk, hSi⟩ := HF.out
      have HSn := Aside0.mk hSn
      have HSk := Aside0.mk hSk
      have HSi := Aside0.mk hSi
      clear hSn hSk hSi HF HSp
      generalize spansE (cPar n j k) = S at *
      have HSl := Aside0.mk hSl
      clear hSl
      go_loopw [12] (fun v12 wr => ∃ i : Nat, i ≤ n ∧ v12 = .int .i64 i ∧ Aside0 (Below w7.heap.size w7 wr)) (fun v12 _ => n - (intOf v12).toNat)
      case atStart => exact ⟨0, Nat.zero_le _, rfl, ⟨Below.refl _ _⟩⟩
      case round =>
        obtain ⟨i, hi, rfl, HB⟩ := hrel
        by_cases hlt : i < n
        · by_cases hik : i = k
          · subst hik
            have hBa := below_alloc HB.out (.cells #[.int .i64 (-1), .int .i64 (j : Int)] 26)
            obtain ⟨x, ad, rfl, hx, h0, h1⟩ := nt_Sp HCS.out hBa i (by rw [HSl.out]; omega)
            obtain rfl : (⟨-1, (j : Int)⟩ : Sp) = x := by rw [HSk.out] at hx; exact Option.some.inj hx
            clear hx
            have HBa := Aside0.mk hBa
            clear hBa
            have q := fun W => eqSp (-1) (j : Int) (-1) (j : Int) W
            rw [show (((-1 : Int) == -1) && (((j : Int) : Int) == (j : Int))) = true by simp] at q
            go_wp2
            go_region
            go_wp2
            go_roundw
            case rel => exact ⟨i + 1, by omega, by go_num, ⟨below_drew1 HBa.out⟩⟩
            case measure => simp [intOf]; omega
          · have hikb : ((i : Int) == (k : Int)) = false := beq_eq_false_iff_ne.2 (by omega)
            have hBa := below_alloc HB.out (.cells #[.int .i64 (-1), .int .i64 (-1)] 26)
            obtain ⟨x, ad, rfl, hx, h0, h1⟩ := nt_Sp HCS.out hBa i (by rw [HSl.out]; omega)
            obtain rfl : (⟨-1, (-1)⟩ : Sp) = x := by rw [HSi.out i hlt hik] at hx; exact Option.some.inj hx
            clear hx
            have HBa := Aside0.mk hBa
            clear hBa
            have q := fun W => eqSp (-1) (-1) (-1) (-1) W
            rw [show (((-1 : Int) == -1) && (((-1) : Int) == (-1))) = true by simp] at q
            go_wp2
            go_region
            go_wp2
            go_roundw
            case rel => exact ⟨i + 1, by omega, by go_num, ⟨below_drew1 HBa.out⟩⟩
            case measure => simp [intOf]; omega
        · obtain rfl : n = i := by omega
          by_cases hj0 : j = 0
          · subst hj0
            obtain ⟨x, ad, rfl, hx, h0, h1⟩ := nt_Sp HCS.out HB.out n (by rw [HSl.out]; omega)
            obtain rfl : (⟨-1, -1⟩ : Sp) = x := by rw [HSn.out] at hx; exact Option.some.inj hx
            clear hx
            have q := fun W => eqSp (-1) (-1) (-1) (-1) W
            rw [show (((-1 : Int) == -1) && ((-1 : Int) == -1)) = true by simp] at q
            go_wp2
            go_ret
            exact ⟨rfl, below_step HB7.out HB.out⟩
          · have hj0b : ((j : Int) == 0) = false := beq_eq_false_iff_ne.2 (by omega)
            obtain ⟨x, ad, rfl, hx, h0, h1⟩ := nt_Sp HCS.out HB.out n (by rw [HSl.out]; omega)
            obtain rfl : (⟨0, (j : Int) - 1⟩ : Sp) = x := by rw [HSn.out, lastSp, if_neg hj0] at hx; exact Option.some.inj hx
            clear hx
            have q := fun W => eqSp 0 ((j : Int) - 1) 0 ((j : Int) - 1) W
            rw [show (((0 : Int) == 0) && (((j : Int) - 1) == ((j : Int) - 1))) = true by simp] at q
            go_wp2
            go_ret
            exact ⟨rfl, below_step HB7.out HB.out⟩
theorem params_row (a : Int) (_ : (Lit.int .i64 a).wf = true) (b : Int) (_ : (Lit.int .i64 b).wf = true) (r : Int) (hr : (Lit.int .i64 r).wf = true) (w : World) :
    Calls Try.prog 6 #[.int .i64 a, .int .i64 b, .int .i64 r] w fun e w' => e = .returned (.bool true) ∧ Below w.heap.size w w' := by
  by_cases hbad : a < 1 ∨ 6 < a ∨ b < 0 ∨ 50 < b ∨ r < 0
  · exact params_bad a b r w hbad
  · obtain ⟨n, rfl⟩ := Int.eq_ofNat_of_zero_le (show 0 ≤ a by omega)
    obtain ⟨m, rfl⟩ := Int.eq_ofNat_of_zero_le (show 0 ≤ b by omega)
    obtain ⟨r, rfl⟩ := Int.eq_ofNat_of_zero_le (show 0 ≤ r by omega)
    exact params_ok n m r w (by omega) (by omega) (by omega) hr
end Go.Proofs.Ytlkkdpmloeipjaa
