/- exec.Run: what comes of a function of an image, and what can be seen of it. -/
import Derived.Test.YtddnbpgibfmolaaX11
import Derived.Deep.LoopGhost
namespace Go.Proofs.Ytddnbpgibfmolaa
open Go.RowKit Go.Proofs.YtddnbpgibfmolaaW.PrintWords Go.Maps
set_option linter.unusedVariables false

theorem told_zero (e : Int) {w w1 : World} (hb : Below (w.heap.size) w w1) : RetTold w ⟨0, [], [], e⟩ (.returned (.tuple #[.agg #[.int .u32 0, .slice none 0 0], .slice none 0 0, .int .i64 e])) w1 :=
  ⟨none, 0, none, 0, rfl, Kd.C_nil _ _, Kd.C_nil _ _, hb⟩
theorem box2_sndb {w wr : World} {o1 o2 : Go.Obj} (h : Below (w.heap.size + 2) ((w.alloc o1).alloc o2) wr) : wr.heap[w.heap.size + 1]? = some o2 := (h.block (w.heap.size + 1) (by omega)).trans (blk_new1 w o1 o2)
theorem box2_lt {w wr : World} {o1 o2 : Go.Obj} (h : Below (w.heap.size + 2) ((w.alloc o1).alloc o2) wr) : w.heap.size + 1 < wr.heap.size := by
  have h1 := h.size
  rw [World.size_alloc, World.size_alloc] at h1
  omega
theorem zero_entry (w : World) : (zeroValue 36).run Try.prog w = .ok (.agg #[.string ⟨#[]⟩, .slice none 0 0, .int .i64 0, .int .i64 0, .int .i64 0]) w := by kernel_rfl
theorem lt_alloc {w w2 : World} {o : Go.Obj} (h : Below (w.alloc o).heap.size (w.alloc o) w2) : w.heap.size < w2.heap.size := by
  have h1 := h.size
  rw [World.size_alloc] at h1
  omega
theorem words_zero (n : Nat) : ((List.replicate n (0 : Int)).map (Value.int .u32)).toArray = Array.replicate n (Value.int .u32 0) := by simp
theorem PW_made (w : World) (cv : Value) (p : Int) (M : Nat) : PW w ((w.alloc (.cells (Array.replicate M (Value.int .u32 0)) 25)).alloc (.cells #[cv, .slice (some ⟨w.heap.size, 0, none⟩) M M, .int .u32 0, .int .u32 0, .int .u32 0, .int .u32 0, .int .u32 0, .int .u32 0, .int .u32 0, .int .u32 0, .slice none 0 0, .int .i64 p, .bool false, .bool false] 76 (0, 0))).drew w.heap.size cv p (List.replicate M 0) := by
  refine ⟨rfl, below_drew1 (below_alloc (below_alloc (Below.refl _ _) _) _), ?_, ?_⟩
  · rw [List.length_replicate]; exact blk_drew (blk_new1 _ _ _)
  · rw [words_zero]; exact blk_drew (blk_alloc (blk_new _ _) _)
theorem PW_cell {w3 w : World} {B : Nat} {cv : Value} {p : Int} {mem : List Int} (h : PW w3 w B cv p mem) {n : Nat} (hn : n < mem.length) : w.cell? ⟨B, n, none⟩ = some (.int .u32 (gt mem n)) := by
  rw [blk_cell h.row n]
  simp [gt, hn, List.getD]
theorem PW.drew {w3 w : World} {B : Nat} {cv : Value} {p : Int} {mem : List Int} (h : PW w3 w B cv p mem) : PW w3 w.drew B cv p mem := h.same (below_drew1 (Below.refl _ _))
theorem MW_start {w3 w : World} {B : Nat} {cv : Value} {p : Int} {mem : List Int} (h : PW w3 w B cv p mem) : MW w3 (w.alloc (.cells #[.slice none 0 0] 39 (0, 0))) B (B + 1) w.heap.size B cv (.slice none 0 0) (.slice none 0 0) ⟨List.replicate 8 0, mem, [], p, false, false⟩ [] := by
  have h1 := h.same (below_alloc (Below.refl w.heap.size w) (.cells #[.slice none 0 0] 39 (0, 0)))
  have h2 := h.below.size
  have h3 := h.base
  exact ⟨h1.below, by rw [World.size_alloc]; omega, by omega, by omega, by omega, h1.box, h1.row, Kd.R_nil _ _ _ _ _, blk_new _ _, Kd.R_nil _ _ _ _ _⟩
theorem put2 {w : World} {g : Nat} {a b x y : Value} {t : TypeId} (h : w.heap[g]? = some (.cells #[a, b] t (0, 0))) : ((w.setCell ⟨g, 0, none⟩ x).setCell ⟨g, 1, none⟩ y).heap[g]? = some (.cells #[x, y] t (0, 0)) := blk_put (blk_put h 0 x rfl) 1 y rfl

theorem told_end {w w7 : World} {b1 b2 cr c4 : Nat} {Ar A4 : Option Addr} {L : List Int} {out : List Leak} {r : Int} {g : Nat} {a b : Value} (hU : OwnU w7 b1 (.slice Ar L.length cr) L) (hL : OwnL w7 b2 (.slice A4 out.length c4) out) (hb : w7.heap[g]? = some (.cells #[a, b] 38 (0, 0))) (hg : w.heap.size ≤ g) (hB : Below w.heap.size w w7) :
    RetTold w ⟨r, L, out, 0⟩ (.returned (.tuple #[.agg #[.int .u32 r, .slice Ar L.length cr], .slice A4 out.length c4, .int .i64 0])) ((w7.setCell ⟨g, 0, none⟩ (.int .u32 r)).setCell ⟨g, 1, none⟩ (.slice Ar L.length cr)) := by
  have hb1 := blk_put hb 0 (.int .u32 r) rfl
  have h1 := Kd.R_set (Kd.R_set hU hb (by decide) 0 (.int .u32 r)) hb1 (by decide) 1 (.slice Ar L.length cr)
  have h2 := Kd.R_set (Kd.R_set hL hb (by decide) 0 (.int .u32 r)) hb1 (by decide) 1 (.slice Ar L.length cr)
  obtain ⟨A, c, e, _, hC⟩ := Kd.R_reads h1
  obtain ⟨A', c', e', _, hC'⟩ := Kd.R_reads h2
  injection e with e1 _ _
  injection e' with e1' _ _
  subst e1 e1'
  exact ⟨_, _, _, _, rfl, hC, hC', below_set (below_set hB hg) hg⟩
set_option maxRecDepth 100000 in
set_option maxHeartbeats 32000000 in
theorem xrun_any (m : Image) (A0 : Option Addr) (c0 : Nat) (A1 : Option Addr) (c1 : Nat) (name : ByteArray) (args : List Int) (Aa : Option Addr) (ca : Nat) (w : World) (hok : ImgOk m) (hat : ImgAt w m A0 c0 A1 c1) (hname : name.size ≤ 100)
    (hargs : Kd.C (Kd.int .u32) w Aa args.length args) (hca : args.length ≤ ca) (hau : ∀ r ∈ args, u32 r) (hal : args.length ≤ 1000) :
    Calls Try.prog 15 #[imgV m A0 c0 A1 c1, .string name, .slice Aa args.length ca] w (RetTold w (tellE m name args)) := by
  have HT := Aside0.mk hat
  have HO := Aside0.mk hok
  have HAr := Aside0.mk hargs
  have HAu := Aside0.mk hau
  have hel := hok.ents
  have HR := Aside0.mk (fun W hb => xright_any m A0 c0 A1 c1 W hok (hat.below hb))
  have HX := Aside0.mk (fun (W : World) (h : Below (w.heap.size + 2) ((w.alloc (.cells #[.slice A0 m.entries.length c0, .slice A1 m.code.length c1, .int .i64 m.mem] 31)).alloc (.cells #[.int .u32 0, .slice none 0 0] 38)) W) => (show W.cell? ⟨w.heap.size, 0, none⟩ = some (.slice A0 m.entries.length c0) ∧ W.cell? ⟨w.heap.size, 1, none⟩ = some (.slice A1 m.code.length c1) ∧ W.cell? ⟨w.heap.size, 2, none⟩ = some (.int .i64 m.mem) ∧ W.cell? ⟨w.heap.size + 1, 0, none⟩ = some (.int .u32 0) ∧ W.cell? ⟨w.heap.size + 1, 1, none⟩ = some (.slice none 0 0) ∧ W.frozen? ⟨w.heap.size + 1, 0, none⟩ = false ∧ W.frozen? ⟨w.heap.size + 1, 1, none⟩ = false from
    ⟨box2_fst h 0, box2_fst h 1, box2_fst h 2, box2_snd h 0, box2_snd h 1, blk_frozen (box2_sndb h) 0, blk_frozen (box2_sndb h) 1⟩))
  clear hat hok hargs hau
  have hu := Try.underlying31
  have hu2 := Try.underlying36
  have hu3 := Try.underlying38
  have hu4 := Try.underlying33
  simp only [imgV] at *
  cases himg : imgB m
  · have HZ := Aside0.mk (show tellE m name args = ⟨0, [], [], 6⟩ by unfold tellE; rw [if_pos himg])
    rw [himg] at HR
    clear himg
    go_enter Try.func15, Try.ntmps15
    go_wp2_with (go_at_call 17; (with_reducible refine (HR.out _ (below_alloc (below_alloc (Below.refl _ _) _) _)).mono ?_); rintro e w1 ⟨rfl, hB1⟩; have HB1 := Aside0.mk (show Below (w.heap.size + 2) _ w1 from by simpa using hB1); clear hB1; obtain ⟨g0, g1, g2, g3, g4, g5, g6⟩ := HX.out w1 HB1.out)
    refine bodyPost_ret (v := .tuple #[.agg #[.int .u32 0, .slice none 0 0], .slice none 0 0, .int .i64 6]) ?_ rfl ?_
    · exact results_ctt Try.results15 _ _ (w.heap.size + 1) 38 #[.int .u32 0, .slice none 0 0] (0, 0) _ rfl (put2 (box2_sndb HB1.out)) Try.underlying38 rfl (by kernel_rfl)
    rw [HZ.out]
    exact told_zero 6 (below_set (below_set (box2_below HB1.out) (by omega)) (by omega))
  · have HI := Aside0.mk (img_iff.1 himg)
    have HZ := Aside0.mk (show tellE m name args = (match findE m.entries name with
      | none => ⟨0, [], [], 22⟩
      | some x => if (args.length : Int) ≠ wordsN x.params + cellsN x.params then ⟨0, [], [], 1⟩ else toldE x (runF m.code 1500000 (st0 m x args) [])) by unfold tellE; rw [himg, if_neg (by decide)]; rfl)
    rw [himg] at HR
    clear himg
    have hmm := @run_makeMap Try.prog
    go_enter Try.func15, Try.ntmps15
    go_upto_region 5 with (go_at_call 17; (with_reducible refine (HR.out _ (below_alloc (below_alloc (Below.refl _ _) _) _)).mono ?_); rintro e w1 ⟨rfl, hB1⟩; have HB1 := Aside0.mk (show Below (w.heap.size + 2) _ w1 from by simpa using hB1); clear hB1; have hlt0 := box2_lt HB1.out; have hlt1 := Nat.lt_of_succ_lt hlt0; obtain ⟨g0, g1, g2, g3, g4, g5, g6⟩ := HX.out w1 HB1.out)
    go_wp2
    have HS0 := Aside0.mk (SMp_made w1)
    have HB0 := Aside0.mk (HB1.out.trans ((below_alloc (Below.refl w1.heap.size w1) (.map #[] 0)).mono (by omega)))
    go_loopw [30] (fun v30 wr => ∃ (k : Nat) (f : ByteArray → Option Value), k ≤ m.entries.length ∧ v30 = .int .i64 k ∧ Aside0 (SMp wr w1.heap.size k f) ∧ Aside0 (FOk w (m.entries.take k) f) ∧ Aside0 (Below (w.heap.size + 2) ((w.alloc (.cells #[.slice A0 m.entries.length c0, .slice A1 m.code.length c1, .int .i64 m.mem] 31)).alloc (.cells #[.int .u32 0, .slice none 0 0] 38)) wr)) (fun v30 _ => m.entries.length - (intOf v30).toNat)
    case atStart => exact ⟨0, _, Nat.zero_le _, rfl, HS0, ⟨fun s => rfl⟩, HB0⟩
    case round =>
      obtain ⟨k, f, hk, rfl, HS, HF, HB⟩ := hrel
      clear g0 g1 g2 g3 g4 g5 g6
      have hltr := box2_lt HB.out
      by_cases hlt : k < m.entries.length
      · obtain ⟨x, ad, Ap, cp, rfl, hx, y0, y1, y2, y3, y4, hlp, hCp⟩ := nt_Entry HT.out.ents (Below.refl _ _) k hlt
        have h0 := pw_cell_below (box2_below HB.out) y0
        have h1 := pw_cell_below (box2_below HB.out) y1
        have h2 := pw_cell_below (box2_below HB.out) y2
        have h3 := pw_cell_below (box2_below HB.out) y3
        have h4 := pw_cell_below (box2_below HB.out) y4
        have HF2 := Aside0.mk (show FOk w (m.entries.take (k + 1)) (updS f x.name (entV x Ap cp)) by rw [take_snoc_at hx]; exact HF.out.snoc hCp hlp)
        have HN := Aside0.mk (show x.name.size ≤ maxLen by have := HO.out.names x (at_mem hx); unfold maxLen; omega)
        clear y0 y1 y2 y3 y4 hx hCp
        obtain ⟨nm, params, pos, base, cells⟩ := x
        simp only [entV] at *
        go_wp2_with (at_mapUpdate; refine list_put rfl (.tmp 34) (.tmp 36) (.tmp 37) rfl Try.underlying69 w1.heap.size k f rfl (HS.out.alloc _) (by unfold maxLen; omega) nm HN.out rfl _ rfl ?_; intro w2 hS2 hG2; have HS2 := Aside0.mk hS2; have HB2 := Aside0.mk (pw_below_grown (box2_step HB.out (below_alloc (Below.refl wr.heap.size wr) (.cells #[.string nm, .slice Ap params.length cp, .int .i64 pos, .int .i64 base, .int .i64 cells] 36))) (some w1.heap.size) (by simp; omega) hG2 (fun q hq => by injection hq with hq; omega)); clear hS2 hG2)
        go_roundw
        case rel => exact ⟨k + 1, _, by omega, by go_num, HS2, HF2, HB2⟩
        case measure => simp [intOf]; omega
      · obtain rfl : m.entries.length = k := by omega
        rw [List.take_length] at HF
        have HFn := Aside0.mk (HF.out name)
        have hkn : name.size ≤ maxLen := by unfold maxLen; omega
        have hlk := HS.out.look Try.underlying69 (zero_entry wr) hkn
        clear hkn
        obtain ⟨g0, g1, g2, g3, g4, g5, g6⟩ := HX.out wr HB.out
        have hltr1 := Nat.lt_of_succ_lt hltr
        cases hfe : findE m.entries name with
        | none =>
          have hfn : f name = none := by have := HFn.out; rw [hfe] at this; exact this
          rw [hfn] at hlk
          have HZ2 := Aside0.mk (show tellE m name args = ⟨0, [], [], 22⟩ by rw [HZ.out, hfe])
          clear hfe hfn
          simp only [Option.getD_none, Option.isSome_none] at hlk
          have L3 := fun o => pw_cell_below (below_alloc (Below.refl wr.heap.size wr) o) g3
          have L4 := fun o => pw_cell_below (below_alloc (Below.refl wr.heap.size wr) o) g4
          go_wp2
          refine bodyPost_ret (v := .tuple #[.agg #[.int .u32 0, .slice none 0 0], .slice none 0 0, .int .i64 22]) ?_ rfl ?_
          · exact results_ctt Try.results15 _ _ (w.heap.size + 1) 38 #[.int .u32 0, .slice none 0 0] (0, 0) _ rfl (blk_alloc (put2 (box2_sndb HB.out)) _) Try.underlying38 rfl (by kernel_rfl)
          rw [HZ2.out]
          exact told_zero 22 (below_alloc (below_set (below_set (box2_below HB.out) (by omega)) (by omega)) _)
        | some x =>
          obtain ⟨Ap, cp, hfn, hCp, hcp⟩ : ∃ A c, f name = some (entV x A c) ∧ Kd.C kTy w A x.params.length x.params ∧ x.params.length ≤ c := by have := HFn.out; rw [hfe] at this; exact this
          rw [hfn] at hlk
          have HE := Aside0.mk (HI.out.ents x (findE_mem hfe).1)
          have HZ2 := Aside0.mk (show tellE m name args = (if (args.length : Int) ≠ wordsN x.params + cellsN x.params then ⟨0, [], [], 1⟩ else toldE x (runF m.code 1500000 (st0 m x args) [])) by rw [HZ.out, hfe])
          have HC := Aside0.mk hCp
          have hpl := HE.out.p6
          have hcb := cellsN_bd x.params HE.out.lens.2
          have hwb := wordsN_le x.params
          clear hfe hfn hCp HFn HZ HF
          obtain ⟨nm, params, pos, base, cells⟩ := x
          simp only [Option.getD_some, Option.isSome_some, entV] at *
          obtain ⟨bn, rfl⟩ := Int.eq_ofNat_of_zero_le (show 0 ≤ base from HE.out.b0)
          have L3 := fun o => pw_cell_below (below_alloc (Below.refl wr.heap.size wr) o) g3
          have L4 := fun o => pw_cell_below (below_alloc (Below.refl wr.heap.size wr) o) g4
          go_upto_region 13 with (go_at_call 34; (with_reducible refine (sizes_any params Ap cp _ HE.out.lens (Kd.C_below HC.out (below_alloc (box2_below HB.out) _))).mono ?_); rintro e w2 ⟨rfl, hB2⟩; go_loud (have HB2 := Aside0.mk (box2_step HB.out (below_step (below_alloc (Below.refl wr.heap.size wr) _) hB2)); have HEb := Aside0.mk (blk_below (blk_new wr (.cells #[.string nm, .slice Ap params.length cp, .int .i64 pos, .int .i64 bn, .int .i64 cells] 36 (0, 0))) hB2); have hlt2 : wr.heap.size < w2.heap.size := lt_alloc hB2; clear hB2 g0 g1 g2 g3 g4 g5 g6 L3 L4))
          obtain ⟨g0, g1, g2, g3, g4, g5, g6⟩ := HX.out w2 HB2.out
          have e1 : w2.cell? ⟨wr.heap.size, 1, none⟩ = some (.slice Ap params.length cp) := blk_cell HEb.out 1
          have e2 : w2.cell? ⟨wr.heap.size, 2, none⟩ = some (.int .i64 pos) := blk_cell HEb.out 2
          have e3 : w2.cell? ⟨wr.heap.size, 3, none⟩ = some (.int .i64 bn) := blk_cell HEb.out 3
          by_cases hcnt : (args.length : Int) = wordsN params + cellsN params
          · have hcnb : ((args.length : Int) != wordsN params + cellsN params) = false := by simp [hcnt]
            have HCn := Aside0.mk hcnt
            have HZ3 := Aside0.mk (show tellE m name args = toldE ⟨nm, params, pos, (bn : Int), cells⟩ (runF m.code 1500000 (st0 m ⟨nm, params, pos, (bn : Int), cells⟩ args) []) by rw [HZ2.out, if_neg (by simp [hcnt])])
            have hm0 := HI.out.code.c0
            have hm1 := HI.out.code.c1
            have hmk : ∀ W, (Instr.makeSlice 22 (.int .i64 m.mem) (.int .i64 m.mem)).run Try.prog W = .ok (.slice (some ⟨W.heap.size, 0, none⟩) m.mem.toNat m.mem.toNat) (W.alloc (.cells (Array.replicate m.mem.toNat (Value.int .u32 0)) 25)) := fun W => by
              have := make_words m.mem.toNat (by omega) W
              rwa [Int.toNat_of_nonneg hm0, words_zero] at this
            have L1 := fun o => pw_cell_below (below_alloc (Below.refl w2.heap.size w2) o) g1
            have M2 := fun o => pw_cell_below (below_alloc (Below.refl w2.heap.size w2) o) e2
            clear hcnt HZ2
            go_wp2
            go_region
            have HP0 := Aside0.mk (PW_made w2 (.slice A1 m.code.length c1) pos m.mem.toNat)
            have HB3 := Aside0.mk (fun (W : World) (h : Below w2.heap.size w2 W) => HB2.out.trans (h.mono (by omega)))
            have HE3 := Aside0.mk (fun (W : World) (h : Below w2.heap.size w2 W) => (h.block _ hlt2).trans HEb.out)
            generalize hw3 : ((w2.alloc (.cells (Array.replicate m.mem.toNat (Value.int .u32 0)) 25)).alloc (.cells #[.slice A1 m.code.length c1, .slice (some ⟨w2.heap.size, 0, none⟩) m.mem.toNat m.mem.toNat, .int .u32 0, .int .u32 0, .int .u32 0, .int .u32 0, .int .u32 0, .int .u32 0, .int .u32 0, .int .u32 0, .slice none 0 0, .int .i64 pos, .bool false, .bool false] 76 (0, 0))).drew = w3 at *
            clear hw3 hmk L1 M2 e1 e2 e3 g0 g1 g2 g3 g4 g5 g6
            have e1 : w3.cell? ⟨wr.heap.size, 1, none⟩ = some (.slice Ap params.length cp) := blk_cell (HE3.out w3 HP0.out.below) 1
            have e3 : w3.cell? ⟨wr.heap.size, 3, none⟩ = some (.int .i64 bn) := blk_cell (HE3.out w3 HP0.out.below) 3
            have hb0 := HE.out.b0
            have hb1 := HE.out.b1
            have hc0 := HE.out.c0
            have hc1 := HE.out.c1
            simp only at hb0 hb1 hc0 hc1
            have s1 : IntKind.i64.wrap ((bn : Int) + (wordsN params : Int)) = (bn : Int) + (wordsN params : Int) := IntWalk.i64_in _ (by omega)
            have HL0 := Aside0.mk (show LayI params (mem0 m ⟨nm, params, pos, (bn : Int), cells⟩ args) (bn + wordsN params) (bn + wordsN params + (cellsN params).toNat) m.mem.toNat 0 args bn (bn + wordsN params) (List.replicate m.mem.toNat 0) from ⟨rfl, by have := HCn.out; simp only [List.drop_zero]; omega, by simp only [List.drop_zero], by simp only [List.drop_zero], List.length_replicate ..⟩)
            have hwE : bn + wordsN params ≤ m.mem.toNat := by omega
            have hcE : bn + wordsN params + (cellsN params).toNat ≤ m.mem.toNat := by omega
            go_upto_region 16 with (fail)
            go_quiet (fail)
            clear s1
            go_wp2
            obtain ⟨wo, rfl⟩ : ∃ wo : World, wo = wr := ⟨_, rfl⟩
            go_loopw [2, 17, 18, 79] (fun v2 v17 v18 v79 wq => ∃ (i : Nat) (A' : Option Addr) (c' : Nat) (rest : List Int) (wi ci : Nat) (mem : List Int), i ≤ params.length ∧ v79 = .int .i64 i ∧ v2 = .slice A' rest.length c' ∧ v17 = .int .i64 wi ∧ v18 = .int .i64 ci ∧ Aside0 (rest.length ≤ c' ∧ Kd.C (Kd.int .u32) w A' rest.length rest) ∧ Aside0 (LayI params (mem0 m ⟨nm, params, pos, (bn : Int), cells⟩ args) (bn + wordsN params) (bn + wordsN params + (cellsN params).toNat) m.mem.toNat i rest wi ci mem) ∧ Aside0 (PW w2 wq w2.heap.size (.slice A1 m.code.length c1) pos mem)) (fun _ _ _ v79 _ => params.length - (intOf v79).toNat)
            case atStart => exact ⟨0, Aa, ca, args, bn, bn + wordsN params, _, Nat.zero_le _, rfl, rfl, rfl, by go_num, ⟨hca, HAr.out⟩, HL0, ⟨HP0.out.same (pw_below_drewN (Below.refl _ _) _)⟩⟩
            case round =>
              obtain ⟨i, A', c', rest, wi, ci, mem, hi, rfl, rfl, rfl, rfl, HRs, HLy, HP⟩ := hrel
              have hml : mem.length ≤ 4096 := by have := HLy.out.ml; omega
              by_cases hit : i < params.length
              · obtain ⟨t, adT, rfl, ht, t0, t1⟩ := nt_Ty HC.out (box2_below (HB3.out wr HP.out.below)) i hit
                have hrng := HE.out.lens.2 t (at_mem ht)
                obtain ⟨sc, len⟩ := t
                simp only at t0 t1 hrng
                obtain ⟨ln, rfl⟩ := Int.eq_ofNat_of_zero_le hrng.1
                have HPa := Aside0.mk (HP.out.same (below_alloc (Below.refl wr.heap.size wr) (.cells #[.bool sc, .int .i64 ln] 33 (0, 0))))
                have HTb := Aside0.mk (blk_new wr (.cells #[.bool sc, .int .i64 ln] 33 (0, 0)))
                by_cases hz : ln = 0
                · subst hz
                  obtain ⟨hL2, hwm, hrp⟩ := HLy.out.word ht rfl hwE
                  have HL2 := Aside0.mk hL2
                  obtain ⟨A2, hs2, hC2, hle2⟩ := args_drop HRs.out.2 HRs.out.1 1 (by omega)
                  have HC2 := Aside0.mk hC2
                  obtain ⟨adr, r0, rfl, hr0, hcr⟩ := nt_scalar HRs.out.2 (box2_below (HB3.out _ HPa.out.below)) 0 hrp
                  have HR0 := Aside0.mk (show rest.getD 0 0 = r0 by simp [List.getD, hr0])
                  have hsl : ∀ W : World, (Instr.slice 22 (.slice (some adr) rest.length c') (some (.int .i64 1)) none none).run Try.prog W = .ok (.slice A2 (rest.drop 1).length (c' - 1)) W := hs2
                  rw [HR0.out] at HL2
                  clear ht hL2 hs2 hC2 hr0
                  obtain ⟨r2, hr2⟩ : ∃ r2, rest.drop 1 = r2 := ⟨_, rfl⟩
                  rw [hr2] at hsl HC2 HL2 hle2
                  have HHle2 := Aside0.mk hle2
                  clear hr2 hle2
                  simp only [Addr.add_zero'] at hcr
                  have hzb : (((0 : Nat) : Int) == 0) = true := rfl
                  go_upto_region 21 with (fail)
                  clear t0 t1
                  have HPa' := Aside0.mk (show PW w2 (wr.alloc (.cells #[.bool sc, .int .i64 0] 33 (0, 0))) w2.heap.size (.slice A1 m.code.length c1) pos mem from HPa.out)
                  have hcr' : (wr.alloc (.cells #[.bool sc, .int .i64 0] 33 (0, 0))).cell? adr = some (.int .u32 r0) := hcr
                  clear HPa HTb hcr
                  generalize wr.alloc (.cells #[.bool sc, .int .i64 0] 33 (0, 0)) = w4 at *
                  have r1 : w4.cell? ⟨w2.heap.size + 1, 1, none⟩ = some (.slice (some ⟨w2.heap.size, 0, none⟩) mem.length mem.length) := blk_cell HPa'.out.box 1
                  have r2c : w4.cell? ⟨w2.heap.size, wi, none⟩ = some (.int .u32 (gt mem wi)) := PW_cell HPa'.out hwm
                  have r2f := blk_frozen HPa'.out.row wi
                  go_region
                  go_wp2
                  go_roundw
                  case rel => exact ⟨i + 1, A2, c' - 1, r2, wi + 1, ci, mem.set wi r0, by omega, by go_num, rfl, by go_num, rfl, ⟨HHle2.out, HC2.out⟩, HL2, ⟨PW.same (HPa'.out.put wi r0) (below_drew1 (Below.refl _ _))⟩⟩
                  case measure => simp [intOf]; omega
                · obtain ⟨hL2, hfit, hlr⟩ := HLy.out.array ht (by simp only; omega) (by simp only; omega) HE.out.lens.2 hcE
                  simp only [Int.toNat_natCast] at hL2 hfit hlr
                  have HL2 := Aside0.mk hL2
                  obtain ⟨hsT, hCT⟩ := args_take HRs.out.2 HRs.out.1 ln hlr
                  obtain ⟨A2, hs2, hC2, hle2⟩ := args_drop HRs.out.2 HRs.out.1 ln hlr
                  have HC2 := Aside0.mk hC2
                  have hlT : (rest.take ln).length = ln := by rw [List.length_take]; omega
                  have HlT := Aside0.mk hlT
                  have HCT := Aside0.mk hCT
                  have hmc := fun W => mem_cut (B := w2.heap.size) (n := mem.length) (c := ci) (by omega) W
                  obtain ⟨adr, rfl⟩ : ∃ ad : Addr, A' = some ad := by
                    obtain ⟨ad, _, e, _⟩ := nt_scalar HRs.out.2 (Below.refl _ _) 0 (by omega)
                    exact ⟨ad, e⟩
                  rw [hlT] at hsT
                  clear ht hL2 hC2 hlT hCT
                  obtain ⟨r2, hr2⟩ : ∃ r2, rest.drop ln = r2 := ⟨_, rfl⟩
                  obtain ⟨r1', hr1⟩ : ∃ r1', rest.take ln = r1' := ⟨_, rfl⟩
                  rw [hr2] at hs2 HC2 HL2 hle2
                  rw [hr1] at HCT HL2 HlT
                  have HHle2 := Aside0.mk hle2
                  clear hr1 hr2 hle2
                  have hzb : ((ln : Int) == 0) = false := beq_eq_false_iff_ne.2 (by omega)
                  go_upto_region 24 with (fail)
                  clear t0 t1
                  have HTl : (wr.alloc (.cells #[.bool sc, .int .i64 ln] 33 (0, 0))).cell? ⟨wr.heap.size, 1, none⟩ = some (.int .i64 ln) := blk_cell HTb.out 1
                  have hTlt : wr.heap.size < (wr.alloc (.cells #[.bool sc, .int .i64 ln] 33 (0, 0))).heap.size := by simp
                  have hgB : w2.heap.size + 1 < wr.heap.size := blk_lt HP.out.box
                  clear HTb
                  generalize hw4 : wr.alloc (.cells #[.bool sc, .int .i64 ln] 33 (0, 0)) = w4 at *
                  have HTb := Aside0.mk (show w4.heap[wr.heap.size]? = some (.cells #[.bool sc, .int .i64 ln] 33 (0, 0)) by rw [← hw4]; exact blk_new _ _)
                  clear hw4
                  have r1 : w4.cell? ⟨w2.heap.size + 1, 1, none⟩ = some (.slice (some ⟨w2.heap.size, 0, none⟩) mem.length mem.length) := blk_cell HPa.out.box 1
                  go_region_law (refine step_copy rfl (.tmp 104) (.tmp 108) rfl w2.heap.size ci (mem.length - ci) (mem.length - ci) c' adr r1' mem (.slice A1 m.code.length c1) pos rfl (by rw [HlT.out]; rfl) HPa.out.drew (by rw [HlT.out]; exact hfit) (by rw [HlT.out]; omega) (Kd.C_below HCT.out (box2_below (HB3.out _ HPa.out.drew.below))) ?_; intro w5 hP5 hO5)
                  all_goals
                    have HP5 := Aside0.mk hP5
                    have hT5 : w5.cell? ⟨wr.heap.size, 1, none⟩ = some (.int .i64 ln) := blk_cell ((hO5 wr.heap.size (by omega)).trans HTb.out) 1
                    clear hP5 hO5 r1 HTl
                    go_wp2
                    go_roundw
                    case rel => exact ⟨i + 1, A2, c' - ln, r2, wi, ci + ln, putAt mem ci r1', by omega, by go_num, rfl, rfl, by go_num, ⟨HHle2.out, HC2.out⟩, HL2, HP5⟩
                    case measure => simp [intOf]; omega
              · obtain rfl : i = params.length := by omega
                obtain ⟨hmem, hwi, hci⟩ := HLy.out.last
                have HWi := Aside0.mk hwi
                have HCi := Aside0.mk hci
                have hci4 : ci ≤ 4096 := by omega
                clear hwi hci
                have HMem := Aside0.mk hmem
                have HM0 := Aside0.mk (MW_start HP.out)
                have hrlt : w2.heap.size + 1 < wr.heap.size := blk_lt HP.out.box
                have HMo := Aside0.mk (st0_ok (args := args) HE.out HI.out.code HAu.out)
                have HRF := Aside0.mk (rfl : runF m.code 1500000 (st0 m ⟨nm, params, pos, (bn : Int), cells⟩ args) [] = runF m.code 1500000 (st0 m ⟨nm, params, pos, (bn : Int), cells⟩ args) [])
                generalize hRR : runF m.code 1500000 (st0 m ⟨nm, params, pos, (bn : Int), cells⟩ args) [] = RR at HZ3 HRF
                have HRR := Aside0.mk hRR
                have hs0 : st0 m ⟨nm, params, pos, (bn : Int), cells⟩ args = ⟨List.replicate 8 0, mem, [], pos, false, false⟩ := by rw [hmem]; rfl
                rw [hs0] at HMo HRR
                have HTl := Aside0.mk (show ∀ (s : MSt) (out : List Leak), toldE ⟨nm, params, pos, (bn : Int), cells⟩ (some (s, out)) = ⟨gt s.regs 0, (s.mem.drop (bn + wordsN params)).take (cellsN params).toNat, out, 0⟩ from fun s out => rfl)
                have hmf : ∀ (fn : Fn) (first cap : Array Value) (w : World), (Instr.makeFunc fn first cap).run Try.prog w = .ok (.func fn first cap) w := fun _ _ _ _ => rfl
                clear hmem hRR hs0 HRF
                obtain ⟨wo3, rfl⟩ : ∃ wo : World, wo = wr := ⟨_, rfl⟩
                go_wp2
                go_loopg [] 1500001 (fun gk wx => ∃ (s : MSt) (out : List Leak) (bv lv : Value), out.length ≤ 1500000 ∧ Aside0 (gk + out.length = 1500001) ∧ Aside0 (MW w2 wx w2.heap.size (w2.heap.size + 1) wo3.heap.size w2.heap.size (.slice A1 m.code.length c1) bv lv s out) ∧ Aside0 (MOk m.code m.mem s) ∧ Aside0 (runF m.code (1500000 - out.length) s out = RR))
                case atStart => exact ⟨⟨List.replicate 8 0, mem, [], pos, false, false⟩, [], .slice none 0 0, .slice none 0 0, by simp, ⟨by simp⟩, HM0, HMo, HRR⟩
                case round =>
                  obtain ⟨s, out, bv, lv, hol, HG, HM, HMok, HRu⟩ := hrel
                  obtain ⟨A4, c4, hlv, hc4, hC4⟩ := Kd.R_reads HM.out.lrow
                  subst hlv
                  have hbB := HM.out.hB
                  obtain ⟨regs, mem, back, pos, over, far⟩ := s
                  have r12 : wr.cell? ⟨w2.heap.size + 1, 12, none⟩ = some (.bool over) := blk_cell HM.out.box 12
                  have r13 : wr.cell? ⟨w2.heap.size + 1, 13, none⟩ = some (.bool far) := blk_cell HM.out.box 13
                  have rl : wr.cell? ⟨wo3.heap.size, 0, none⟩ = some (.slice A4 out.length c4) := blk_cell HM.out.lbox 0
                  have HC4 := Aside0.mk hC4
                  clear hC4
                  cases over
                  · by_cases hfull : out.length = 1500000
                    · have hfb : ((out.length : Int) == 1500000) = true := beq_iff_eq.2 (by omega)
                      have HZ4 := Aside0.mk (show tellE m name args = ⟨0, [], [], 19⟩ by
                        rw [HZ3.out, ← HRu.out, hfull, Nat.sub_self, runF_end (s := ⟨regs, mem, back, pos, false, far⟩) rfl]; rfl)
                      clear hfull
                      obtain ⟨g0, g1, g2, g3, g4, g5, g6⟩ := HX.out wr (HB3.out wr HM.out.below)
                      go_wp2
                      refine bodyPost_ret (v := .tuple #[.agg #[.int .u32 0, .slice none 0 0], .slice none 0 0, .int .i64 19]) ?_ rfl ?_
                      · exact results_ctt Try.results15 _ _ (w.heap.size + 1) 38 #[.int .u32 0, .slice none 0 0] (0, 0) _ rfl (put2 (box2_sndb (HB3.out wr HM.out.below))) Try.underlying38 rfl (by kernel_rfl)
                      rw [HZ4.out]
                      exact told_zero 19 (below_set (below_set (box2_below (HB3.out wr HM.out.below)) (by omega)) (by omega))
                    · have hfb : ((out.length : Int) == 1500000) = false := beq_eq_false_iff_ne.2 (by omega)
                      cases far
                      · obtain ⟨q, hq⟩ : ∃ q, 1500000 - out.length = q + 1 := ⟨1500000 - out.length - 1, by omega⟩
                        have HRn := Aside0.mk (show runF m.code q (stepE m.code ⟨regs, mem, back, pos, false, false⟩) (out ++ [leakE m.code ⟨regs, mem, back, pos, false, false⟩]) = RR by rw [← HRu.out, hq, runF_step (s := ⟨regs, mem, back, pos, false, false⟩) rfl rfl])
                        have HMn := Aside0.mk (step_ok HI.out.code HO.out.n HMok.out rfl rfl)
                        have HQ := Aside0.mk hq
                        clear hq
                        go_wp2_with (go_at_call 35; (with_reducible refine (step_any m.code m.mem A1 c1 w2 _ w2.heap.size (w2.heap.size + 1) wo3.heap.size w2.heap.size bv _ _ out HM.out hol (Kd.C_below HT.out.code (box2_below (HB3.out wr HM.out.below))) HI.out.code HO.out.n HMok.out rfl rfl).mono ?_); rintro e w6 ⟨rfl, bv', lv', hM6⟩; have HM6 := Aside0.mk hM6; clear hM6)
                        go_roundg (gk - 1)
                        case measure => have := HG.out; omega
                        case rel =>
                          have e1 : (out ++ [leakE m.code ⟨regs, mem, back, pos, false, false⟩]).length = out.length + 1 := by simp
                          refine ⟨_, _, bv', lv', by rw [e1]; omega, ⟨by rw [e1]; have := HG.out; omega⟩, HM6, HMn, ⟨?_⟩⟩
                          rw [e1, show 1500000 - (out.length + 1) = q by have := HQ.out; omega]
                          exact HRn.out
                      · have HZ4 := Aside0.mk (show tellE m name args = ⟨0, [], [], 19⟩ by
                          rw [HZ3.out, ← HRu.out, runF_far (s := ⟨regs, mem, back, pos, false, true⟩) rfl rfl]; rfl)
                        clear hfull
                        obtain ⟨g0, g1, g2, g3, g4, g5, g6⟩ := HX.out wr (HB3.out wr HM.out.below)
                        go_wp2
                        refine bodyPost_ret (v := .tuple #[.agg #[.int .u32 0, .slice none 0 0], .slice none 0 0, .int .i64 19]) ?_ rfl ?_
                        · exact results_ctt Try.results15 _ _ (w.heap.size + 1) 38 #[.int .u32 0, .slice none 0 0] (0, 0) _ rfl (put2 (box2_sndb (HB3.out wr HM.out.below))) Try.underlying38 rfl (by kernel_rfl)
                        rw [HZ4.out]
                        exact told_zero 19 (below_set (below_set (box2_below (HB3.out wr HM.out.below)) (by omega)) (by omega))
                  · have HZ4 := Aside0.mk (show tellE m name args = ⟨gt regs 0, (mem.drop (bn + wordsN params)).take (cellsN params).toNat, out, 0⟩ by
                      rw [HZ3.out, ← HRu.out, runF_over (s := ⟨regs, mem, back, pos, true, far⟩) rfl]; exact HTl.out _ _)
                    have r2 : wr.cell? ⟨w2.heap.size + 1, 2, none⟩ = some (.int .u32 (gt regs 0)) := blk_cell HM.out.box 2
                    have r1 : wr.cell? ⟨w2.heap.size + 1, 1, none⟩ = some (.slice (some ⟨w2.heap.size, 0, none⟩) mem.length mem.length) := blk_cell HM.out.box 1
                    have hlm : mem.length = m.mem.toNat := by have := HMok.out.mem; simp only at this; omega
                    obtain ⟨lo, hlo⟩ : ∃ lo, lo = bn + wordsN params := ⟨_, rfl⟩
                    have s1 : IntKind.i64.wrap ((ci : Int) - cellsN params) = (lo : Int) := by
                      have := HCi.out
                      rw [show (ci : Int) - cellsN params = (lo : Int) by omega]
                      exact IntWalk.i64_in _ (by omega)
                    have hle1 : lo ≤ ci := by have := HCi.out; omega
                    have hle2 : ci ≤ mem.length := by have := HCi.out; omega
                    obtain ⟨Am, hmr, hmC⟩ := mem_mid (B := w2.heap.size) (xs := mem) hle1 hle2
                    have HCm := Aside0.mk (hmC wr (row_C HM.out.mrow (by show mem.length ≤ 1000000; omega)))
                    have HL := Aside0.mk (show (mem.take ci).drop lo = (mem.drop (bn + wordsN params)).take (cellsN params).toNat by
                      rw [List.drop_take, hlo]
                      congr 1
                      have := HCi.out
                      omega)
                    rw [← HL.out] at HZ4
                    have hLl : ((mem.take ci).drop lo).length ≤ 10000 := by rw [List.length_drop, List.length_take]; omega
                    clear HL hlo hlm hmC
                    generalize (mem.take ci).drop lo = L at *
                    obtain ⟨g0, g1, g2, g3, g4, g5, g6⟩ := HX.out wr (HB3.out wr HM.out.below)
                    have L2 := fun o => pw_cell_below (below_alloc (Below.refl wr.heap.size wr) o) r2
                    have L1 := fun o => pw_cell_below (below_alloc (Below.refl wr.heap.size wr) o) r1
                    have Ll := fun o => pw_cell_below (below_alloc (Below.refl wr.heap.size wr) o) rl
                    have HB7 := Aside0.mk (fun (W : World) (h : Below wr.heap.size wr W) => HB3.out W (HM.out.below.trans (h.mono HM.out.hB)))
                    go_upto_region 33 with (fail)
                    go_region_law (refine step_appU wr.heap.size rfl (.tmp 142) (.tmp 151) rfl (.slice (some ⟨wr.heap.size, 0, none⟩) 0 0) [] L Am (mem.length - lo) rfl rfl (ownU_empty (blk_drew (blk_new wr _)) (Nat.le_refl _)) (Kd.C_below HCm.out (below_drew1 (below_alloc (Below.refl _ _) _))) (w0 := wr) (below_drew1 (below_alloc (Below.refl _ _) _)) (by simp) (by simp; omega) ?_; intro v1 w7 hU hB7 hg7; rw [List.nil_append] at hU; obtain ⟨Ar, cr, hv1, hcr, hCr⟩ := Kd.R_reads hU; subst hv1; obtain ⟨q0, q1, q2, q3, q4, q5, q6⟩ := HX.out w7 (HB7.out w7 hB7); have p2 := pw_cell_below hB7 r2; have p1 := pw_cell_below hB7 r1; have pl := pw_cell_below hB7 rl; have HB8 := Aside0.mk hB7; have HU := Aside0.mk hU; clear hU hB7 hg7 hCr)
                    all_goals
                      go_wp2
                      refine bodyPost_ret (v := .tuple #[.agg #[.int .u32 (gt regs 0), .slice Ar L.length cr], .slice A4 out.length c4, .int .i64 0]) ?_ rfl ?_
                      · exact results_ctt Try.results15 _ _ (w.heap.size + 1) 38 #[.int .u32 (gt regs 0), .slice Ar L.length cr] (0, 0) _ rfl (put2 (box2_sndb (HB7.out _ HB8.out))) Try.underlying38 rfl (by kernel_rfl)
                      rw [HZ4.out]
                      exact told_end HU.out (Kd.R_below HM.out.lrow HB8.out) (box2_sndb (HB7.out _ HB8.out)) (by omega) (box2_below (HB7.out _ HB8.out))
          · have hcnb : ((args.length : Int) != wordsN params + cellsN params) = true := by simp [hcnt]
            have HZ3 := Aside0.mk (show tellE m name args = ⟨0, [], [], 1⟩ by rw [HZ2.out, if_pos hcnt])
            clear hcnt HZ2
            go_wp2
            refine bodyPost_ret (v := .tuple #[.agg #[.int .u32 0, .slice none 0 0], .slice none 0 0, .int .i64 1]) ?_ rfl ?_
            · exact results_ctt Try.results15 _ _ (w.heap.size + 1) 38 #[.int .u32 0, .slice none 0 0] (0, 0) _ rfl (put2 (box2_sndb HB2.out)) Try.underlying38 rfl (by kernel_rfl)
            rw [HZ3.out]
            exact told_zero 1 (below_set (below_set (box2_below HB2.out) (by omega)) (by omega))
end Go.Proofs.Ytddnbpgibfmolaa
