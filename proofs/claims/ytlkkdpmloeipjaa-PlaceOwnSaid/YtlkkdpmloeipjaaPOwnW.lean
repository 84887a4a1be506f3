/- carlinglaw12.PlaceOwn: the walk. -/
import Derived.Test.YtlkkdpmloeipjaaF4
import Derived.Test.YtlkkdpmloeipjaaH1
import Derived.Test.YtlkkdpmloeipjaaB3
import Derived.OwnWalk
import Derived.Deep.RegionHeld3
import Derived.Deep.RegionLaw
namespace Go.Proofs.Ytlkkdpmloeipjaa
open Go.RowKit Go.Proofs.YtlkkdpmloeipjaaW.PrintWords
set_option linter.unusedVariables false

/-- The slots' places of the first k registers. -/
def allTo (k : Nat) : List Int := (List.range k).map (fun i : Nat => 8 + (i : Int))
theorem allTo_succ (k : Nat) : allTo (k + 1) = allTo k ++ [8 + (k : Int)] := by unfold allTo; rw [List.range_succ, List.map_append]; rfl
theorem allTo_len (k : Nat) : (allTo k).length = k := by unfold allTo; simp
theorem le_alloc {n : Nat} {W : World} (h : n ≤ W.heap.size) (o : Go.Obj) : n ≤ (W.alloc o).heap.size := by simp; omega
theorem allTo_bound (k : Nat) (hk : k ≤ 10000) : ∀ p ∈ allTo k, 0 ≤ p ∧ p ≤ 1000000 := by
  intro p hp
  unfold allTo at hp
  obtain ⟨i, hi, rfl⟩ := List.mem_map.1 hp
  have := List.mem_range.1 hi
  omega

/-- A function that is right has a register: its last instruction hands one back. -/
theorem regs_pos {c : Code} (h : (rightE c).1 = 0) : 1 ≤ c.regs := by
  obtain ⟨hf, hw⟩ := right_facts h
  have hl : 1 ≤ c.l.length := (formB_cells hf).2.2.2.2.2.2.1
  have hx := List.getElem?_eq_getElem (show c.l.length - 1 < c.l.length by omega)
  have h0 := hw _ _ hx
  generalize c.l[c.l.length - 1] = x at *
  unfold wrongE at h0
  by_cases h14 : bad14 x = true
  · rw [if_pos h14] at h0; exact absurd h0 (by decide)
  rw [if_neg h14] at h0
  by_cases h15 : bad15 c x = true
  · rw [if_pos h15] at h0; exact absurd h0 (by decide)
  rw [if_neg h15] at h0
  by_cases h16 : bad16 c x = true
  · rw [if_pos h16] at h0; exact absurd h0 (by decide)
  rw [if_neg h16] at h0
  by_cases h17 : bad17 c (c.l.length - 1) x = true
  · rw [if_pos h17] at h0; exact absurd h0 (by decide)
  rw [if_neg h17] at h0
  by_cases h18 : bad18 c (c.l.length - 1) x = true
  · rw [if_pos h18] at h0; exact absurd h0 (by decide)
  have h10 : x.kind = 10 := by
    simp only [bad18, decide_eq_true_eq] at h18
    exact Decidable.byContradiction (fun e => h18 ⟨by omega, e⟩)
  have ha : x.a ∈ readsL x := by
    unfold readsL
    rw [if_pos (Or.inr (Or.inr (Or.inr h10)))]
    simp
  have ho : outReg c x.a = false := by
    cases ho : outReg c x.a
    · rfl
    · exact absurd (show bad15 c x = true by unfold bad15; rw [Bool.or_eq_true]; exact .inl (List.any_eq_true.2 ⟨x.a, ha, ho⟩)) h15
  unfold outReg at ho
  have := of_decide_eq_false ho
  omega

section
variable {ops : Array Oper} {o : Oper} {a : Act} {Q : Exit → Act → World → Prop} {K : Act → World → Prop} {W w0 : World}
/-- append(v, l...) of ints, as one step of a region that draws its order, behind a guard. -/
theorem step_app_g (base : Nat) (hw : Region.wanted o (yielded ops a.tmps) = true) (s x : Operand) (ho : o.op = .call { callee := .builtin .append, args := #[s, x], argTypes := #[31, 31] })
    (v : Value) (xs ys : List Int) (A : Option Addr) (c : Nat) (hs : a.eval s = v) (hx : a.eval x = .slice A ys.length c) (HO : OwnI W base v xs) (HC : Kd.C (Kd.int .i64) W A ys.length ys) (HB : Below base w0 W) (hbase : base ≤ W.heap.size) (hl : xs.length + ys.length ≤ 100000)
    (h : ∀ v1 w1, OwnI w1 base v1 (xs ++ ys) → Below base w0 w1 → W.grownBy w1 v.ownBlock → K (a.put o.dst v1) w1) :
    if Region.wanted o (yielded ops a.tmps) = true then Oper.wp Try.prog o a W K Q else K (a.put o.dst undef) W := by
  refine Kd.R_append_rows_step (Kd.int .i64) (Rr := fun y cs => cs = [.int .i64 y]) (w0 := w0) base hw s x 31 3 (.int .i64 0) 8 ho Try.underlying31 infoI rfl (by decide) (by decide) v xs ys A ys.length c (fun _ => True) (fun _ => False) hs hx HO HC (fun _ _ h => h) (fun _ h => h.elim) (fun _ _ => trivial) HB hbase (by omega) ?_
  intro v1 w1 h1 h2 h3 _
  exact h v1 w1 h1 h2 h3
end

set_option maxHeartbeats 16000000 in
set_option maxRecDepth 100000 in
theorem pown_good (c : Code) (n : Nat) (A1 : Option Addr) (c1 : Nat) (A4 : Option Addr) (c4 : Nat) (more : Int) (w : World) (hat : CodeAt w c A1 c1 A4 c4) (hok : CodeOk c) (hl : lightC c = true) (hb : (rightE c).1 = 0) (hn : (n : Int) = c.regs) (hr : c.regs ≤ 300) (hm0 : 0 ≤ more) (hm1 : more ≤ 1000) :
    Calls Try.prog 11 #[codeV c A1 c1 A4 c4, .int .i64 more] w fun e w' => e = .returned (.bool true) ∧ Below w.heap.size w w' := by
  have HT := Aside0.mk hat
  have HL := Aside0.mk (fun W hb => light_lit c A1 c1 A4 c4 w W hat hb)
  have HO := Aside0.mk hok
  rw [hl] at HL
  have hu2 := Try.underlying25
  have HP := Aside0.mk (fun W (hb : Below w.heap.size w W) => places_any c A1 c1 A4 c4 W HO.out (HT.out.below hb))
  have hrp := regs_pos hb
  have hpo := placesE_ok hb
  rw [show c.regs.toNat = n by omega] at hpo
  have hsl := slots_le hb
  have hs0 := hpo.slots0
  have hen : (placesE c).2.2 = 0 := by unfold placesE; rw [if_pos hb]
  have hpb : ∀ p ∈ (placesE c).1, 0 ≤ p ∧ p ≤ 1000000 := by
    intro p hp
    obtain ⟨r, hr⟩ := List.getElem?_of_mem hp
    have hlt := (List.getElem?_eq_some_iff.1 hr).1
    have hlen := hpo.len
    have h := hpo.at_ r (by omega)
    rw [li_get hlt] at hr
    injection hr with hr
    rw [hr] at h
    omega
  have hpl := hpo.len
  have hpb3 : ∀ p ∈ (placesE c).1 ++ [3], 0 ≤ p ∧ p ≤ 1000000 := by
    intro p hp
    rcases List.mem_append.1 hp with hp | hp
    · exact hpb p hp
    · rw [List.mem_singleton.1 hp]; omega
  have HK1 := Aside0.mk (fun W (hw : Below w.heap.size w W) (A : Option Addr) (k : Nat) (hl : Kd.C (Kd.int .i64) W A (placesE c).1.length (placesE c).1) => check_any c (placesE c).1 (placesE c).2.1 A1 c1 A4 c4 A k W HO.out (HT.out.below hw) hl hpb)
  have HK2 := Aside0.mk (fun W (hw : Below w.heap.size w W) (A : Option Addr) (k : Nat) (hl : Kd.C (Kd.int .i64) W A (placesE c).1.length (placesE c).1) => check_any c (placesE c).1 ((placesE c).2.1 + more) A1 c1 A4 c4 A k W HO.out (HT.out.below hw) hl hpb)
  have HK3 := Aside0.mk (fun W (hw : Below w.heap.size w W) (A : Option Addr) (k : Nat) (hl : Kd.C (Kd.int .i64) W A (allTo n).length (allTo n)) => check_any c (allTo n) n A1 c1 A4 c4 A k W HO.out (HT.out.below hw) hl (allTo_bound n (by omega)))
  have HK4 := Aside0.mk (fun W (hw : Below w.heap.size w W) (A : Option Addr) (k : Nat) (hl : Kd.C (Kd.int .i64) W A ((placesE c).1 ++ [3]).length ((placesE c).1 ++ [3])) => check_any c ((placesE c).1 ++ [3]) (placesE c).2.1 A1 c1 A4 c4 A k W HO.out (HT.out.below hw) hl hpb3)
  have HK5 := Aside0.mk (fun W (hw : Below w.heap.size w W) (A : Option Addr) (k : Nat) (hl : Kd.C (Kd.int .i64) W A (allTo n).length (allTo n)) => check_any c (allTo n) ((n : Int) - 1) A1 c1 A4 c4 A k W HO.out (HT.out.below hw) hl (allTo_bound n (by omega)))
  rw [show checkE c (placesE c).1 (placesE c).2.1 = true by have := hpo.check hb hn (more := 0) (by omega); rwa [Int.add_zero] at this] at HK1
  rw [hpo.check hb hn hm0] at HK2
  rw [show checkE c (allTo n) n = true from check_all hb hn] at HK3
  simp only [allTo_len] at HK3 HK5
  rw [check_len (by rw [List.length_append, List.length_singleton]; omega)] at HK4
  have HK5' := Aside0.mk (fun (h : 0 < n) => (show checkE c (allTo n) ((n : Int) - 1) = false from check_few h))
  generalize checkE c (allTo n) ((n : Int) - 1) = k5 at *
  rw [hen] at HP
  clear hat hok hl hb hen hpb hpb3 hpo
  obtain ⟨name, params, regs, cells, l⟩ := c
  simp only [codeV] at *
  generalize placesE ⟨name, params, regs, cells, l⟩ = P at *
  obtain ⟨pl, sl, er⟩ := P
  simp only at HP HK1 HK2 HK3 HK4 HK5 hsl hs0 hr hn hpl hrp
  subst hn
  subst hpl
  have HAL := allTo_len pl.length
  generalize hq4 : pl ++ [3] = q4 at HK4
  have HQ4 := Aside0.mk (show ∀ l : List Int, l = pl ++ [3] → l = q4 from fun l h => h.trans hq4)
  clear hq4
  go_enter Try.func11, Try.ntmps11
  go_wp2_with (first
    | (go_at_call 30; (with_reducible refine (awake12_any _).mono ?_); rintro e w1 ⟨rfl, hB1⟩; have HB1 := Aside0.mk (show Below (w.heap.size + 1) _ w1 from by simpa using hB1); clear hB1; obtain ⟨g0, g1, g2, g3, g4⟩ := code_box1 (c := ⟨name, params, (pl.length : Int), cells, l⟩) HB1.out; (try simp only at g0 g1 g2 g3 g4))
    | (go_at_call 18; (with_reducible refine (HL.out w1 (below_of_box HB1.out)).mono ?_); rintro e w2 ⟨rfl, hB2⟩; have HB2 := Aside0.mk (box_step HB1.out hB2); clear hB2 g0 g1 g2 g3 g4; obtain ⟨g0, g1, g2, g3, g4⟩ := code_box1 (c := ⟨name, params, (pl.length : Int), cells, l⟩) HB2.out; (try simp only at g0 g1 g2 g3 g4))
    | (go_at_call 31; (with_reducible refine (HP.out w2 (below_of_box HB2.out)).mono ?_); rintro e w3 ⟨A, k, rfl, hk, hC, hB3⟩; have HB3 := Aside0.mk (box_step HB2.out hB3); have HCp := Aside0.mk hC; clear hB3 hC g0 g1 g2 g3 g4))
  have HBx := Aside0.mk (fun W (h : Below w3.heap.size w3 W) => code_box1 (c := ⟨name, params, (pl.length : Int), cells, l⟩) (box_step HB3.out h))
  have HBw := Aside0.mk (fun W (h : Below w3.heap.size w3 W) => below_of_box (box_step HB3.out h))
  go_loopw [10, 11] (fun v10 v11 wr => ∃ k : Nat, k ≤ pl.length ∧ v11 = .int .i64 k ∧ Aside0 (OwnI wr w3.heap.size v10 (allTo k)) ∧ Aside0 (Below w3.heap.size w3 wr)) (fun _ v11 _ => pl.length - (intOf v11).toNat)
  case atStart => exact ⟨0, Nat.zero_le _, rfl, ⟨Kd.R_nil _ _ _ _ _⟩, ⟨Below.refl _ _⟩⟩
  case round =>
    obtain ⟨k, hk, rfl, HOw, HB⟩ := hrel
    obtain ⟨g0, g1, g2, g3, g4⟩ := HBx.out _ HB.out
    (try simp only at g0 g1 g2 g3 g4)
    by_cases hlt : k < pl.length
    · go_wp2_with (at_builtin; refine list_app w3.heap.size rfl (.tmp 47) (.tmp 50) rfl _ (allTo k) [8 + (k : Int)] _ 1 rfl rfl (Kd.R_alloc HOw.out _) (C_one (blk_new _ _)) (w0 := w3) (below_alloc HB.out _) (Nat.le_trans HB.out.size (by simp)) (by rw [allTo_len]; simp; omega) ?_; intro v8 w8 hR8 hb8 hg8; rw [← allTo_succ] at hR8; have HO8 := Aside0.mk hR8; have HB8 := Aside0.mk hb8; clear hR8 hb8 hg8 g0 g1 g2 g3 g4)
      go_roundw
      case rel => exact ⟨k + 1, by omega, by go_num, HO8, HB8⟩
      case measure => simp [intOf]; omega
    · obtain rfl : pl.length = k := by omega
      obtain ⟨A8, c8, rfl, hle8, hC8⟩ := Kd.R_reads HOw.out
      rw [allTo_len] at hC8
      have HC8 := Aside0.mk hC8
      clear hC8
      generalize wr = wz at *
      have HCz := Aside0.mk (Kd.C_below HCp.out HB.out)
      have HX := Aside0.mk (fun W (h : Below wz.heap.size wz W) => (show Below wz.heap.size wz W ∧ W.cell? ⟨w.heap.size, 0, none⟩ = some (.string name) ∧ W.cell? ⟨w.heap.size, 1, none⟩ = some (.slice A1 params.length c1) ∧ W.cell? ⟨w.heap.size, 2, none⟩ = some (.int .i64 (pl.length : Int)) ∧ W.cell? ⟨w.heap.size, 3, none⟩ = some (.int .i64 cells) ∧ W.cell? ⟨w.heap.size, 4, none⟩ = some (.slice A4 l.length c4) from ⟨h, HBx.out W (below_step HB.out h)⟩))
      have HBz := Aside0.mk (fun W (h : Below wz.heap.size wz W) => HBw.out W (below_step HB.out h))
      have HLn := Aside0.mk (show ([] : List Int).length + pl.length ≤ 100000 by simp; omega)
      have HLn3 := Aside0.mk (show pl.length + [(3 : Int)].length ≤ 100000 by simp; omega)
      have hwr1 : IntKind.i64.wrap (sl + more) = sl + more := IntWalk.i64_in _ (by omega)
      have hwr2 : IntKind.i64.wrap ((pl.length : Int) - 1) = (pl.length : Int) - 1 := IntWalk.i64_in _ (by omega)
      go_upto_region 13 with (fail)
      clear g0 g1 g2 g3 g4
      have hz : 0 < pl.length := by omega
      have hz0 : ((pl.length : Int) == 0) = false := beq_eq_false_iff_ne.2 (by omega)
      obtain rfl := HK5'.out hz
      have HZ := Aside0.mk hz
      clear hz
      go_region_held3 (fun W => Below wz.heap.size wz W ∧ W.cell? ⟨w.heap.size, 0, none⟩ = some (.string name) ∧ W.cell? ⟨w.heap.size, 1, none⟩ = some (.slice A1 params.length c1) ∧ W.cell? ⟨w.heap.size, 2, none⟩ = some (.int .i64 (pl.length : Int)) ∧ W.cell? ⟨w.heap.size, 3, none⟩ = some (.int .i64 cells) ∧ W.cell? ⟨w.heap.size, 4, none⟩ = some (.slice A4 l.length c4))
        (first | assumption | exact HX.out _ (below_drew1 (Below.refl _ _)) | exact HX.out _ (below_step (And.left ‹Below wz.heap.size wz _ ∧ _›) hB5) | exact HX.out _ hb8 | exact HX.out _ hb9 | exact HX.out _ (below_alloc (And.left ‹Below wz.heap.size wz _ ∧ _›) _))
        (first
        | (go_at_call 32; (with_reducible refine (HK1.out _ (HBz.out _ (And.left ‹Below wz.heap.size wz _ ∧ _›)) A _ (Kd.C_below HCz.out (And.left ‹Below wz.heap.size wz _ ∧ _›))).mono ?_); rintro e w5 ⟨rfl, hB5⟩; have HZ5 := Aside0.mk (Nat.le_trans (Go.RowKit.Below.size (And.left ‹Below wz.heap.size wz _ ∧ _›)) hB5.size))
        | (go_at_call 32; (with_reducible refine (HK2.out _ (HBz.out _ (And.left ‹Below wz.heap.size wz _ ∧ _›)) A _ (Kd.C_below HCz.out (And.left ‹Below wz.heap.size wz _ ∧ _›))).mono ?_); rintro e w5 ⟨rfl, hB5⟩; have HZ5 := Aside0.mk (Nat.le_trans (Go.RowKit.Below.size (And.left ‹Below wz.heap.size wz _ ∧ _›)) hB5.size))
        | (go_at_call 32; (with_reducible refine (HK3.out _ (HBz.out _ (And.left ‹Below wz.heap.size wz _ ∧ _›)) A8 _ (Kd.C_below HC8.out (And.left ‹Below wz.heap.size wz _ ∧ _›))).mono ?_); rintro e w5 ⟨rfl, hB5⟩; have HZ5 := Aside0.mk (Nat.le_trans (Go.RowKit.Below.size (And.left ‹Below wz.heap.size wz _ ∧ _›)) hB5.size))
        | (go_at_call 32; (with_reducible refine (HK4.out _ (HBz.out _ (And.left ‹Below wz.heap.size wz _ ∧ _›)) A9 _ HC9.out).mono ?_); rintro e w5 ⟨rfl, hB5⟩; have HZ5 := Aside0.mk (Nat.le_trans (Go.RowKit.Below.size (And.left ‹Below wz.heap.size wz _ ∧ _›)) hB5.size))
        | (go_at_call 32; (with_reducible refine (HK5.out _ (HBz.out _ (And.left ‹Below wz.heap.size wz _ ∧ _›)) A8 _ (Kd.C_below HC8.out (And.left ‹Below wz.heap.size wz _ ∧ _›))).mono ?_); rintro e w5 ⟨rfl, hB5⟩; have HZ5 := Aside0.mk (Nat.le_trans (Go.RowKit.Below.size (And.left ‹Below wz.heap.size wz _ ∧ _›)) hB5.size))
        | (refine step_app_g wz.heap.size ?_ (.tmp 76) (.tmp 77) rfl (.slice (some ⟨_, 0, none⟩) 0 0) [] pl A _ rfl rfl ?_ ?_ (w0 := wz) ?_ ?_ ?_ ?_; kernel_rfl; (refine own_empty (base := wz.heap.size) ?_ ?_; (first | exact blk_new _ _ | exact blk_new1 _ _ _ | exact blk_alloc (blk_new _ _) _); (first | exact HZ5.out | exact Nat.le_succ_of_le HZ5.out | exact le_alloc HZ5.out _)); exact Kd.C_below HCz.out (And.left ‹Below wz.heap.size wz _ ∧ _›); exact (And.left ‹Below wz.heap.size wz _ ∧ _›); exact Go.RowKit.Below.size (And.left ‹Below wz.heap.size wz _ ∧ _›); exact HLn.out; (intro v8 w8 hR8 hb8 hg8; rw [List.nil_append] at hR8))
        | (refine step_app_g wz.heap.size ?_ (.tmp 78) (.tmp 79) rfl v8 pl [3] _ 1 rfl rfl ?_ ?_ (w0 := wz) ?_ ?_ ?_ ?_; kernel_rfl; (first | exact hR8 | exact Kd.R_alloc hR8 _); (first | exact C_one (blk_new _ _) | exact C_one (blk_grown (blk_new _ _) hg8 (fun e => Nat.succ_ne_self _ (Option.some.inj e))) | exact C_one (blk_grown (blk_new1 _ _ _) hg8 (fun e => Nat.succ_ne_self _ (Option.some.inj e))) | exact C_one (blk_grown (blk_alloc (blk_new _ _) _) hg8 (fun e => Nat.succ_ne_self _ (Option.some.inj e).symm))); exact (And.left ‹Below wz.heap.size wz _ ∧ _›); exact Go.RowKit.Below.size (And.left ‹Below wz.heap.size wz _ ∧ _›); exact HLn3.out; (intro v9 w9 hR9 hb9 hg9; have hR9 := (HQ4.out _ rfl) ▸ hR9; obtain ⟨A9, c9, rfl, _, hC9⟩ := Kd.R_reads hR9; have HC9 := Aside0.mk hC9)))
      all_goals
        go_wp2
        go_ret
        exact ⟨rfl, HBz.out _ (And.left ‹Below wz.heap.size wz _ ∧ _›)⟩

set_option maxHeartbeats 8000000 in
set_option maxRecDepth 100000 in
theorem pown_walk (c : Code) (A1 : Option Addr) (c1 : Nat) (A4 : Option Addr) (c4 : Nat) (w : World) (hat : CodeAt w c A1 c1 A4 c4) (hwf : WfCode c) (more : Int) :
    Calls Try.prog 11 #[codeV c A1 c1 A4 c4, .int .i64 more] w fun e w' => e = .returned (.bool true) ∧ Below w.heap.size w w' := by
  have HT := Aside0.mk hat
  have HL := Aside0.mk (fun W hb => light_lit c A1 c1 A4 c4 w W hat hb)
  have hu2 := Try.underlying25
  by_cases hx : lightC c = true ∧ c.regs ≤ 300 ∧ 0 ≤ more ∧ more ≤ 1000
  · obtain ⟨hl, hr, hm0, hm1⟩ := hx
    have hok := codeOk_of hwf hl
    by_cases hb : (rightE c).1 = 0
    · have hr0 := (formB_cells (right_facts hb).1).2.2.1
      exact pown_good c c.regs.toNat A1 c1 A4 c4 more w hat hok hl hb (by omega) hr hm0 hm1
    · have HO := Aside0.mk hok
      have HP := Aside0.mk (fun W (hb : Below w.heap.size w W) => places_any c A1 c1 A4 c4 W HO.out (HT.out.below hb))
      have hbb : ((rightE c).1 != 0) = true := bne_iff_ne.2 hb
      have hpe : placesE c = ([], 0, (rightE c).1) := by unfold placesE; rw [if_neg hb]
      rw [hpe] at HP
      rw [hl] at HL
      clear hb hpe hat hwf hok hl
      obtain ⟨name, params, regs, cells, l⟩ := c
      simp only [codeV] at *
      generalize rightE ⟨name, params, regs, cells, l⟩ = re at *
      obtain ⟨e1, e2⟩ := re
      simp only [List.length_nil] at HP hbb hr
      go_enter Try.func11, Try.ntmps11
      go_wp2_with (first
        | (go_at_call 30; (with_reducible refine (awake12_any _).mono ?_); rintro e w1 ⟨rfl, hB1⟩; have HB1 := Aside0.mk (show Below (w.heap.size + 1) _ w1 from by simpa using hB1); clear hB1; obtain ⟨g0, g1, g2, g3, g4⟩ := code_box1 (c := ⟨name, params, regs, cells, l⟩) HB1.out; (try simp only at g0 g1 g2 g3 g4))
        | (go_at_call 18; (with_reducible refine (HL.out w1 (below_of_box HB1.out)).mono ?_); rintro e w2 ⟨rfl, hB2⟩; have HB2 := Aside0.mk (box_step HB1.out hB2); clear hB2 g0 g1 g2 g3 g4; obtain ⟨g0, g1, g2, g3, g4⟩ := code_box1 (c := ⟨name, params, regs, cells, l⟩) HB2.out; (try simp only at g0 g1 g2 g3 g4))
        | (go_at_call 31; (with_reducible refine (HP.out w2 (below_of_box HB2.out)).mono ?_); rintro e w3 ⟨A, k, rfl, hk, hC, hB3⟩; have HB3 := Aside0.mk (box_step HB2.out hB3); clear hB3 hC g0 g1 g2 g3 g4))
      go_ret
      exact ⟨rfl, below_of_box HB3.out⟩
  · cases hl : lightC c
    · rw [hl] at HL
      clear hx hat hwf hl
      obtain ⟨name, params, regs, cells, l⟩ := c
      simp only [codeV] at *
      go_enter Try.func11, Try.ntmps11
      go_wp2_with (first
        | (go_at_call 30; (with_reducible refine (awake12_any _).mono ?_); rintro e w1 ⟨rfl, hB1⟩; have HB1 := Aside0.mk (show Below (w.heap.size + 1) _ w1 from by simpa using hB1); clear hB1; obtain ⟨g0, g1, g2, g3, g4⟩ := code_box1 (c := ⟨name, params, regs, cells, l⟩) HB1.out; (try simp only at g0 g1 g2 g3 g4))
        | (go_at_call 18; (with_reducible refine (HL.out w1 (below_of_box HB1.out)).mono ?_); rintro e w2 ⟨rfl, hB2⟩; have HB2 := Aside0.mk (box_step HB1.out hB2); clear hB2 g0 g1 g2 g3 g4; obtain ⟨g0, g1, g2, g3, g4⟩ := code_box1 (c := ⟨name, params, regs, cells, l⟩) HB2.out; (try simp only at g0 g1 g2 g3 g4)))
      go_ret
      exact ⟨rfl, below_of_box HB2.out⟩
    · rw [hl] at HL
      rcases (show ¬ c.regs ≤ 300 ∨ (c.regs ≤ 300 ∧ more < 0) ∨ (c.regs ≤ 300 ∧ ¬ more < 0 ∧ ¬ more ≤ 1000) from by
        by_cases h1 : c.regs ≤ 300
        · by_cases h2 : more < 0
          · exact .inr (.inl ⟨h1, h2⟩)
          · exact .inr (.inr ⟨h1, h2, fun h3 => hx ⟨hl, h1, by omega, h3⟩⟩)
        · exact .inl h1) with h1 | ⟨h1, h2⟩ | ⟨h1, h2, h3⟩
      all_goals
        clear hx hat hwf hl
        obtain ⟨name, params, regs, cells, l⟩ := c
        simp only [codeV] at *
        go_enter Try.func11, Try.ntmps11
        go_wp2_with (first
          | (go_at_call 30; (with_reducible refine (awake12_any _).mono ?_); rintro e w1 ⟨rfl, hB1⟩; have HB1 := Aside0.mk (show Below (w.heap.size + 1) _ w1 from by simpa using hB1); clear hB1; obtain ⟨g0, g1, g2, g3, g4⟩ := code_box1 (c := ⟨name, params, regs, cells, l⟩) HB1.out; (try simp only at g0 g1 g2 g3 g4))
          | (go_at_call 18; (with_reducible refine (HL.out w1 (below_of_box HB1.out)).mono ?_); rintro e w2 ⟨rfl, hB2⟩; have HB2 := Aside0.mk (box_step HB1.out hB2); clear hB2 g0 g1 g2 g3 g4; obtain ⟨g0, g1, g2, g3, g4⟩ := code_box1 (c := ⟨name, params, regs, cells, l⟩) HB2.out; (try simp only at g0 g1 g2 g3 g4)))
        go_ret
        exact ⟨rfl, below_of_box HB2.out⟩
theorem pown_row (c : Code) (A1 : Option Addr) (c1 : Nat) (A4 : Option Addr) (c4 : Nat) {W : World} (hat : CodeAt W c A1 c1 A4 c4) (hwf : WfCode c) (more : Int) (_ : (Lit.int .i64 more).wf = true)
    (_ : World) : Calls Try.prog 11 #[codeV c A1 c1 A4 c4, .int .i64 more] W fun e w' => e = .returned (.bool true) ∧ Below W.heap.size W w' :=
  pown_walk c A1 c1 A4 c4 W hat hwf more
end Go.Proofs.Ytlkkdpmloeipjaa
